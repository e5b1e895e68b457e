/- Rows that are sorted in place: how they lie in memory. Walks: how two rows stand to each other by keys. Walks: a stable sort in place: comparing, exchanging ranges, rotating. Walks: a stable sort in place: insertion. -/
import Derived.Test.YtcadjekcdokkjaaGreatMSqMN
import Derived.Test.YtcadjekcdokkjaaGreatMLtSq
import Derived.Test.YtcadjekcdokkjaaGreatMJoCO
import Derived.BigRegion
namespace Go.Proofs.YtcadjekcdokkjaaGreat
set_option linter.unusedVariables false
set_option linter.unusedSimpArgs false
open Go.RowKit
def tab (n : Nat) (f : Nat → Value) : List Value := (List.range n).map f
theorem tab_len (n : Nat) (f : Nat → Value) : (tab n f).length = n := by unfold tab; rw [List.length_map, List.length_range]
theorem tab_get {n i : Nat} (h : i < n) (f : Nat → Value) : (tab n f)[i]? = some (f i) := by
 unfold tab
 rw [List.getElem?_map, List.getElem?_range h]
 rfl
theorem tab_ext {n : Nat} {f f' : Nat → Value} (h : ∀ i, i < n → f i = f' i) : tab n f = tab n f' := by
 unfold tab
 exact List.map_congr_left fun i hi => h i (List.mem_range.1 hi)
theorem tab_set (n : Nat) (f : Nat → Value) (i : Nat) (v : Value) : (tab n f).set i v = tab n fun p => if p = i then v else f p := by
 apply List.ext_getElem?
 intro j
 rw [List.getElem?_set, tab_len]
 by_cases hj : j < n
 ·have h1 : (tab n fun p => if p = i then v else f p)[j]? = some (if j = i then v else f j) := tab_get hj _
  rw [h1]
  by_cases e : i = j
  ·rw [if_pos e, if_pos (by omega), if_pos e.symm]
  ·rw [if_neg e, tab_get hj, if_neg (fun e2 => e e2.symm)]
 ·have h1 : (tab n fun p => if p = i then v else f p)[j]? = none := List.getElem?_eq_none (by rw [tab_len]; omega)
  have h2 : (tab n f)[j]? = none := List.getElem?_eq_none (by rw [tab_len]; omega)
  rw [h1, h2]
  by_cases e : i = j
  ·rw [if_pos e, if_neg (by omega)]
  ·rw [if_neg e]
structure Hr where
 v : Value
 row : RowM
 ix : Nat
structure Dat (w : World) (B g n : Nat) (d : Nat → Hr) : Prop where
 lo : B ≤ g
 blk : Blk w g 23 (tab n fun p => (d p).1)
 row : ∀ p, p < n → ∃ A c, (d p).1 = .slice A (d p).2.length c ∧ Own w B 38 3 A (d p).2.length c (rcells (d p).2) ∧ ∀ v ∈ (d p).2, v.ok
namespace Dat
variable {w w' : World} {B g n : Nat} {d : Nat → Hr}
theorem below (h : Dat w B g n d) (hb : Below w.heap.size w w') : Dat w' B g n d := ⟨h.lo, h.blk.below hb, fun p hp => by
 obtain ⟨A, c, h1, h2, h3⟩ := h.row p hp
 exact ⟨A, c, h1, Own.below h2 hb, h3⟩⟩
theorem cell (h : Dat w B g n d) {p : Nat} (hp : p < n) : w.cell? ⟨g, p, none⟩ = some (d p).1 := by rw [h.blk.cell, tab_get hp]
theorem keep1 (h : Dat w B g n d) (i : Nat) (u : Value) : Keeps [23] B w (w.setCell ⟨g, i, none⟩ u) := (Keeps.refl _ _ _).setCell h.blk (by simp) h.lo u
theorem swap (h : Dat w B g n d) {i j : Nat} (hi : i < n) (hj : j < n) : Dat ((w.setCell ⟨g, i, none⟩ (d j).1).setCell ⟨g, j, none⟩ (d i).1) B g n (Sq.swp d i j) ∧ Keeps [23] B w ((w.setCell ⟨g, i, none⟩ (d j).1).setCell ⟨g, j, none⟩ (d i).1) := by
 have hb1 := h.blk.set_ i (d j).1
 have hb2 := hb1.set_ j (d i).1
 have hk : Keeps [23] B w ((w.setCell ⟨g, i, none⟩ (d j).1).setCell ⟨g, j, none⟩ (d i).1) := (h.keep1 i (d j).1).setCell hb1 (by simp) h.lo _
 refine ⟨⟨h.lo, ?_, fun p hp => ?_⟩, hk⟩
 ·rw [tab_set, tab_set] at hb2
  have e : (tab n fun p => if p = j then (d i).1 else if p = i then (d j).1 else (d p).1) = tab n fun p => (Sq.swp d i j p).1 := tab_ext fun p _ => by
   unfold Sq.swp
   by_cases h1 : p = j
   ·by_cases h2 : p = i
    ·rw [if_pos h1, if_pos h2, ← h1, h2]
    ·rw [if_pos h1, if_neg h2, if_pos h1]
   ·by_cases h2 : p = i
    ·rw [if_neg h1, if_pos h2, if_pos h2]
    ·rw [if_neg h1, if_neg h2, if_neg h2, if_neg h1]
  rw [e] at hb2
  exact hb2
 ·have hq : ∀ q, q < n → ∃ A c, (d q).1 = .slice A (d q).2.length c ∧ Own ((w.setCell ⟨g, i, none⟩ (d j).1).setCell ⟨g, j, none⟩ (d i).1) B 38 3 A (d q).2.length c (rcells (d q).2) ∧ ∀ v ∈ (d q).2, v.ok := fun q hq => by
   obtain ⟨A, c, h1, h2, h3⟩ := h.row q hq
   exact ⟨A, c, h1, Own.keeps h2 (by decide) hk, h3⟩
  unfold Sq.swp
  by_cases h1 : p = i
  ·rw [if_pos h1]; exact hq j hj
  ·rw [if_neg h1]
   by_cases h2 : p = j
   ·rw [if_pos h2]; exact hq i hi
   ·rw [if_neg h2]; exact hq p hp
end Dat
structure KeyAt (w : World) (B kb kn kc : Nat) (KA : Option Addr) (ks : List Ky) : Prop where
 len : ks.length = kn
 box : Blk w kb 41 [.slice KA kn kc]
 key : Rs [23] B w KA (kyc ks)
theorem KeyAt.keeps {w w' : World} {B kb kn kc : Nat} {KA : Option Addr} {ks : List Ky} (h : KeyAt w B kb kn kc KA ks) (hk : Keeps [23] B w w') : KeyAt w' B kb kn kc KA ks := ⟨h.len, h.box.keeps (by decide) hk, h.key.keeps hk⟩
theorem KeyAt.below {w w' : World} {B kb kn kc : Nat} {KA : Option Addr} {ks : List Ky} (h : KeyAt w B kb kn kc KA ks) (hb : Below w.heap.size w w') : KeyAt w' B kb kn kc KA ks := ⟨h.len, h.box.below hb, h.key.keeps (Keeps.of_below hb)⟩
def leK (ks : List Ky) : Hr → Hr → Prop := Sq.leX (fun x y => leRow ks x.row y.row) (fun x => x.ix)
theorem leH_ord (ks : List Ky) : Sq.Ordb (fun x y : Hr => leRow ks x.row y.row) := ⟨fun x y z h1 h2 => (leRow_ord ks).trans x.row y.row z.row h1 h2, fun x y => (leRow_ord ks).total x.row y.row⟩
theorem leK_ordr (ks : List Ky) : Sq.Ordr (leK ks) := Sq.leX_ordr (leH_ord ks) _
theorem cmp_leK (ks : List Ky) (x y : Hr) (h : y.ix < x.ix) : cmpR ks x.2 y.2 < 0 ↔ ¬ leK ks y x := by
 unfold leK
 rw [Sq.leX_iff h, leRow_no]
 exact (cmpR_cmp ks).flip _ _
end Go.Proofs.YtcadjekcdokkjaaGreat
namespace Go.Proofs.YtcadjekcdokkjaaGreat
set_option linter.unusedVariables false
set_option linter.unusedSimpArgs false
open Go.RowKit
attribute [local go_sem ↓] Go.wp_at_zero Go.wp_at_succ
set_option maxHeartbeats 4000000 in
set_option maxRecDepth 100000 in
theorem oneD_any (x y : Va) (down : Bool) (w : World) : Calls Tryz.prog 63 #[x.agg, y.agg, .bool down] w fun e w' => e = .returned (.int .i64 (oneD x y down)) ∧ Below w.heap.size w w' := by
 cases down with
 | false => exact one_any x y w
 | true =>
  have hv : Hid (oneD x y true = if x.k = 0 ∧ y.k = 0 then 0 else if x.k = 0 then -1 else if y.k = 0 then 1 else cmpVa y x) := rfl
  have hc := fun w' => compare_any y x w'
  generalize oneD x y true = R at *
  generalize cmpVa y x = C at *
  obtain ⟨k, n, s⟩ := x
  obtain ⟨k', n', s'⟩ := y
  unfold Va.agg at *
  dsimp only at *
  have Hc := Lib.hid hc
  clear hc
  by_cases h1 : k = 0
  ·by_cases h2 : k' = 0
   ·rw [if_pos ⟨h1, h2⟩] at hv
    go_enter Tryz.func63, Tryz.ntmps63
    go_wp2_with fail
    go_ret
    rw [hv.out]
    exact ⟨rfl, by go_grown⟩
   ·rw [if_neg (fun h => h2 h.2), if_pos h1] at hv
    have e2 : (k' == 0) = false := by simp [h2]
    go_enter Tryz.func63, Tryz.ntmps63
    go_wp2_with fail
    go_ret
    rw [hv.out]
    exact ⟨rfl, by go_grown⟩
  ·have e1 : (k == 0) = false := by simp [h1]
   by_cases h2 : k' = 0
   ·rw [if_neg (fun h => h1 h.1), if_neg h1, if_pos h2] at hv
    go_enter Tryz.func63, Tryz.ntmps63
    go_wp2_with fail
    go_ret
    rw [hv.out]
    exact ⟨rfl, by go_grown⟩
   ·rw [if_neg (fun h => h1 h.1), if_neg h1, if_neg h2] at hv
    have e2 : (k' == 0) = false := by simp [h2]
    go_enter Tryz.func63, Tryz.ntmps63
    go_wp2_with fail
    refine (Hc.out _).mono ?_
    rintro e w3 ⟨rfl, hb3⟩
    go_wp2_with fail
    go_ret
    rw [hv.out]
    exact ⟨rfl, below_two' hb3⟩
theorem cmpR_at {ks : List Ky} {x y : RowM} {j : Nat} (hj : j < ks.length) : cmpR (ks.drop j) x y = if oneD (colAt x ks[j].col) (colAt y ks[j].col) ks[j].down ≠ 0 then oneD (colAt x ks[j].col) (colAt y ks[j].col) ks[j].down else cmpR (ks.drop (j + 1)) x y := by
 rw [List.drop_eq_getElem_cons hj]
 rfl
set_option maxHeartbeats 4000000 in
set_option maxRecDepth 100000 in
theorem rcmp_k (x y : RowM) (xl xc yl yc : Nat) (X Y : Option Addr) (KA : Option Addr) (kn kc : Nat) (ks : List Ky) (w : World) (hx : x.length = xl) (hy : y.length = yl) (hX : Rd w X (rcells x)) (hY : Rd w Y (rcells y)) (hlen : ks.length = kn) (hK : Rd w KA (kyc ks)) (hn : kn ≤ 1000000) :
  Calls Tryz.prog 39 #[.slice X xl xc, .slice Y yl yc, .slice KA kn kc] w fun e w' => e = .returned (.int .i64 (cmpR ks x y)) ∧ Below w.heap.size w w' := by
 have hax := Lib.hid (fun col w' (h : Rd w' X (rcells x)) => oat_any x X xl xc col w' hx h)
 have hay := Lib.hid (fun col w' (h : Rd w' Y (rcells y)) => oat_any y Y yl yc col w' hy h)
 have HX := Lib.hid hX
 have HY := Lib.hid hY
 have HK := Lib.hid hK
 have Hlen := Lib.hid hlen
 clear hx hy hX hY hlen hK
 go_enter Tryz.func39, Tryz.ntmps39
 go_wp2_with fail
 go_loopw [12] (fun i wr => ∃ j : Nat, j ≤ kn ∧ i = .int .i64 j ∧ Hid (Below w.heap.size w wr) ∧ Hid (cmpR ks x y = cmpR (ks.drop j) x y)) (fun i _ => kn - (intOf i).toNat)
 case atStart => exact ⟨0, by omega, rfl, Below.refl _ _, by rw [List.drop_zero]; rfl⟩
 case round =>
  obtain ⟨j, hj, rfl, Hb, Hr⟩ := hrel
  by_cases hlt : j < kn
  ·have hjl : j < ks.length := by rw [Hlen.out]; exact hlt
   obtain ⟨b, o, rfl, c0, c1⟩ := (HK.out.below Hb.out).ky hjl
   have hat := Lib.hid (cmpR_at (x := x) (y := y) hjl)
   generalize ks[j].col = col at *
   generalize ks[j].down = down at *
   have hon := Lib.hid (fun w' => oneD_any (colAt x col) (colAt y col) down w')
   have hax1 := Lib.hid (hax.out col)
   have hay1 := Lib.hid (hay.out col)
   generalize oneD (colAt x col) (colAt y col) down = R at *
   generalize colAt x col = vx at *
   generalize colAt y col = vy at *
   have hbd : Below wr.heap.size wr (wr.alloc (.cells #[.int .i64 col, .bool down] 40)).drew := ((Below.refl _ _).alloc (Nat.le_refl _) _).drew
   have hXd := Lib.hid ((HX.out.below Hb.out).below hbd)
   have hYd := Lib.hid ((HY.out.below Hb.out).below hbd)
   have hkb := (Blk.new wr 40 #[.int .i64 col, .bool down])
   have kd0 : (wr.alloc (.cells #[.int .i64 col, .bool down] 40)).drew.cell? ⟨wr.heap.size, 0, none⟩ = some (.int .i64 col) := hkb.cell 0
   have kd1 : (wr.alloc (.cells #[.int .i64 col, .bool down] 40)).drew.cell? ⟨wr.heap.size, 1, none⟩ = some (.bool down) := hkb.cell 1
   have Hbd := Lib.hid hbd
   have hzr := Hb.out.size
   clear hkb hbd hax hay HX HY
   have tok1 : True := trivial
   go_wp2_with fail
   go_region_held3 (fun w' => w'.cell? ⟨wr.heap.size, 0, none⟩ = some (.int .i64 col) ∧ w'.cell? ⟨wr.heap.size, 1, none⟩ = some (.bool down))
    (first | assumption | exact ⟨kd0, kd1⟩ | exact ⟨ka3, kb3⟩ | exact ⟨ka4, kb4⟩ | exact ⟨ka5, kb5⟩ | (refine ⟨?_, ?_⟩ <;> go_cell))
    (first | (go_at_call 64; have _t := tok1; refine (hax1.out _ hXd.out).mono ?_; rintro e w3 ⟨rfl, hb3⟩; have ka3 := cell_keep hb3 kd0; have kb3 := cell_keep hb3 kd1; have hY3 := Lib.hid (hYd.out.below hb3); clear tok1 _t) | (go_at_call 64; refine (hay1.out _ hY3.out).mono ?_; rintro e w4 ⟨rfl, hb4⟩; have ka4 := cell_keep hb4 ka3; have kb4 := cell_keep hb4 kb3) | (go_at_call 63; refine (hon.out _).mono ?_; rintro e w5 ⟨rfl, hb5⟩; have ka5 := cell_keep hb5 ka4; have kb5 := cell_keep hb5 kb4))
   have hb35 := (hb3.trans (hb4.mono hb3.size))
   have hbw5 := Lib.hid (Hb.out.trans ((Hbd.out.trans ((hb35.trans (hb5.mono hb35.size)).mono Hbd.out.size)).mono hzr))
   clear hb3 hb4 hb5 hb35 Hbd
   by_cases hR : R = 0
   ·have hr1 : Hid (cmpR ks x y = cmpR (ks.drop (j + 1)) x y) := by
     show _ = _
     rw [Hr.out, hat.out, if_neg (fun h => h hR)]
    subst hR
    clear hat Hr
    go_wp2_with fail
    go_roundw
    case rel => exact ⟨j + 1, by omega, by go_num, hbw5.out, hr1.out⟩
    case measure => simp [intOf]; omega
   ·have hr1 : Hid (cmpR ks x y = R) := by
     show _ = _
     rw [Hr.out, hat.out, if_pos hR]
    clear hat Hr
    go_wp2_with fail
    go_ret
    rw [hr1.out]
    exact ⟨rfl, hbw5.out⟩
  ·have hr1 : Hid (cmpR ks x y = 0) := by
    show _ = _
    rw [Hr.out, List.drop_eq_nil_of_le (by rw [Hlen.out]; omega)]
    rfl
   clear Hr
   go_wp2_with fail
   go_ret
   rw [hr1.out]
   exact ⟨rfl, Hb.out⟩
end Go.Proofs.YtcadjekcdokkjaaGreat
namespace Go.Proofs.YtcadjekcdokkjaaGreat
set_option linter.unusedVariables false
set_option linter.unusedSimpArgs false
open Go.RowKit
attribute [local go_sem ↓] Go.wp_at_zero Go.wp_at_succ
theorem scmp_any (x y : RowM) (xl xc yl yc : Nat) (X Y : Option Addr) (B kb kn kc : Nat) (KA : Option Addr) (ks : List Ky) (w : World) (hx : x.length = xl) (hy : y.length = yl) (hX : Rd w X (rcells x)) (hY : Rd w Y (rcells y)) (hK : KeyAt w B kb kn kc KA ks) (hn : kn ≤ 1000000) :
  Calls Tryz.prog 55 #[.slice X xl xc, .slice Y yl yc, .pointer (some ⟨kb, 0, none⟩)] w fun e w' => e = .returned (.int .i64 (cmpR ks x y)) ∧ Below w.heap.size w w' := by
 have k2 := hK.box.cell 0
 simp only [List.getElem?_cons_zero] at k2
 have hc := Lib.hid (rcmp_k x y xl xc yl yc X Y KA kn kc ks w hx hy hX hY hK.len hK.key.rd hn)
 clear hK
 go_enter Tryz.func55, Tryz.ntmps55
 go_wp2_with fail
 refine hc.out.mono ?_
 rintro e w3 ⟨rfl, hb3⟩
 go_wp2_with fail
 go_ret
 exact ⟨rfl, hb3⟩
set_option maxHeartbeats 4000000 in
set_option maxRecDepth 100000 in
theorem swaps_c (F : Value) (B g n c : Nat) (d : Nat → Hr) (a b k : Nat) (w : World) (h : Dat w B g n d) (hn : n ≤ 1000000) (hnc : n ≤ c) (h1 : a + k ≤ b) (h2 : b + k ≤ n) :
  Calls Tryz.prog 125 #[.slice (some ⟨g, 0, none⟩) n c, .int .i64 a, .int .i64 b, .int .i64 k, F] w fun e w' => e = .returned (.tuple #[]) ∧ Dat w' B g n (Sq.swps d a b k) ∧ Keeps [23] B w w' := by
 have H := Lib.hid h
 clear h
 go_enter Tryz.func125, Tryz.ntmps125
 go_wp2_with fail
 go_loopw [10] (fun vi wr => ∃ i : Nat, i ≤ k ∧ vi = .int .i64 i ∧ Hid (Dat wr B g n (Sq.swps d a b i)) ∧ Hid (Keeps [23] B w wr)) (fun i _ => k - (intOf i).toNat)
 case atStart => exact ⟨0, by omega, rfl, by rw [Sq.swps_zero]; exact H.out, Keeps.refl _ _ _⟩
 case round =>
  obtain ⟨i, hi, rfl, Hd, Hk⟩ := hrel
  by_cases hlt : i < k
  ·have hpa : a + i < n := by omega
   have hpb : b + i < n := by omega
   have hsw := Hd.out.swap hpa hpb
   rw [Sq.swps_succ d (show a + (i + 1) ≤ b by omega)] at hsw
   have ca := Hd.out.cell hpa
   have cb := Hd.out.cell hpb
   have fa := Hd.out.blk.frozen (a + i)
   have fb := Hd.out.blk.frozen (b + i)
   obtain ⟨A1, c1, e1, _⟩ := Hd.out.row (a + i) hpa
   obtain ⟨A2, c2, e2, _⟩ := Hd.out.row (b + i) hpb
   rw [e1, e2] at hsw
   rw [e1] at ca
   rw [e2] at cb
   generalize (Sq.swps d a b i (a + i)).2.length = l1 at *
   generalize (Sq.swps d a b i (b + i)).2.length = l2 at *
   have Hsw := Lib.hid hsw
   have wa : IntKind.i64.wrap ((a : Int) + (i : Int)) = (a : Int) + (i : Int) := by rw [IntKind.wrap_i64]; omega
   have wb : IntKind.i64.wrap ((b : Int) + (i : Int)) = (b : Int) + (i : Int) := by rw [IntKind.wrap_i64]; omega
   have ta : ((a : Int) + (i : Int)).toNat = a + i := by omega
   have tb : ((b : Int) + (i : Int)).toNat = b + i := by omega
   have ia : (0 : Int) ≤ (a : Int) + (i : Int) := by omega
   have ib : (0 : Int) ≤ (b : Int) + (i : Int) := by omega
   have ja : (a : Int) + (i : Int) < (n : Int) := by omega
   have jb : (b : Int) + (i : Int) < (n : Int) := by omega
   have hne : a + i ≠ b + i := by omega
   clear hsw e1 e2 Hd
   go_wp2_with fail
   go_region
   clear wa wb ta tb ia ib ja jb
   go_wp2_with fail
   go_roundw
   case rel => exact ⟨i + 1, by omega, by go_num, Hsw.out.1.below (Below.refl _ _).drew, (Hk.out.trans Hsw.out.2).then_below (Below.refl _ _).drew⟩
   case measure => simp [intOf]; omega
  ·obtain rfl : i = k := by omega
   go_wp2_with fail
   go_end0
   exact ⟨rfl, Hd.out, Hk.out⟩
set_option maxHeartbeats 4000000 in
set_option maxRecDepth 100000 in
theorem rotate_c (F : Value) (B g n c : Nat) (d : Nat → Hr) (a m b : Nat) (w : World) (h : Dat w B g n d) (hn : n ≤ 1000000) (hnc : n ≤ c) (h1 : a < m) (h2 : m < b) (h3 : b ≤ n) :
  Calls Tryz.prog 109 #[.slice (some ⟨g, 0, none⟩) n c, .int .i64 a, .int .i64 m, .int .i64 b, F] w fun e w' => e = .returned (.tuple #[]) ∧ Dat w' B g n (Sq.rot d a m b) ∧ Keeps [23] B w w' := by
 have H := Lib.hid h
 clear h
 have w1 : IntKind.i64.wrap ((m : Int) - (a : Int)) = ((m - a : Nat) : Int) := by rw [IntKind.wrap_i64]; omega
 have w2 : IntKind.i64.wrap ((b : Int) - (m : Int)) = ((b - m : Nat) : Int) := by rw [IntKind.wrap_i64]; omega
 go_enter Tryz.func109, Tryz.ntmps109
 go_wp2_with fail
 go_loopw [10, 11] (fun vi vj wr => ∃ (i j : Nat) (d' : Nat → Hr), 0 < i ∧ 0 < j ∧ i ≤ m ∧ m + j ≤ n ∧ vi = .int .i64 i ∧ vj = .int .i64 j ∧ Hid (Dat wr B g n d') ∧ Hid (Sq.rot d' (m - i) m (m + j) = Sq.rot d a m b) ∧ Hid (Keeps [23] B w wr)) (fun i j _ => (intOf i).toNat + (intOf j).toNat)
 case atStart => exact ⟨m - a, b - m, d, by omega, by omega, by omega, by omega, by go_num, by go_num, H.out, by show _ = _; rw [show m - (m - a) = a from by omega, show m + (b - m) = b from by omega], Keeps.refl _ _ _⟩
 case round =>
  clear w1 w2
  obtain ⟨i, j, d', hi0, hj0, hi, hj, rfl, rfl, Hd, Hr, Hk⟩ := hrel
  have v1 : (m : Int) - (i : Int) = ((m - i : Nat) : Int) := by omega
  by_cases hij : i = j
  ·have hs := Lib.hid (swaps_c F B g n c d' (m - i) m i wr Hd.out hn hnc (by omega) (by omega))
   have he : Hid (Sq.swps d' (m - i) m i = Sq.rot d a m b) := by show _ = _; rw [← Hr.out, Sq.rot_eq d' hi, hij]
   subst hij
   go_wp2_with fail
   refine hs.out.mono ?_
   rintro e w5 ⟨rfl, hd5, hk5⟩
   go_wp2_with fail
   go_end0
   rw [he.out] at hd5
   exact ⟨rfl, hd5, Hk.out.trans hk5⟩
  ·by_cases hgt : j < i
   ·have hs := Lib.hid (swaps_c F B g n c d' (m - i) m j wr Hd.out hn hnc (by omega) (by omega))
    have he := Lib.hid (Sq.rot_gt d' hi hgt)
    go_wp2_with fail
    refine hs.out.mono ?_
    rintro e w5 ⟨rfl, hd5, hk5⟩
    go_wp2_with fail
    go_roundw
    case rel => exact ⟨i - j, j, _, by omega, hj0, by omega, by omega, by go_num, rfl, hd5, by show _ = _; rw [he.out, Hr.out], Hk.out.trans hk5⟩
    case measure => simp [intOf]; omega
   ·have v2 : (m : Int) + (j : Int) - (i : Int) = ((m + j - i : Nat) : Int) := by omega
    have hs := Lib.hid (swaps_c F B g n c d' (m - i) (m + j - i) i wr Hd.out hn hnc (by omega) (by omega))
    have he := Lib.hid (Sq.rot_lt d' hi (show i < j by omega))
    go_wp2_with fail
    refine hs.out.mono ?_
    rintro e w5 ⟨rfl, hd5, hk5⟩
    go_wp2_with fail
    go_roundw
    case rel => exact ⟨i, j - i, _, hi0, by omega, by omega, by omega, rfl, by go_num, hd5, by show _ = _; rw [he.out, Hr.out], Hk.out.trans hk5⟩
    case measure => simp [intOf]; omega
end Go.Proofs.YtcadjekcdokkjaaGreat
namespace Go.Proofs.YtcadjekcdokkjaaGreat
set_option linter.unusedVariables false
set_option linter.unusedSimpArgs false
open Go.RowKit
attribute [local go_sem ↓] Go.wp_at_zero Go.wp_at_succ
set_option maxHeartbeats 8000000 in
set_option maxRecDepth 100000 in
theorem insert_c (kb kn kc : Nat) (KA : Option Addr) (ks : List Ky) (B g n c : Nat) (d : Nat → Hr) (a b : Nat) (w : World) (h : Dat w B g n d) (hK : KeyAt w B kb kn kc KA ks) (hkn : kn ≤ 1000000) (hn : n ≤ 1000000) (hnc : n ≤ c) (h1 : a ≤ b) (h2 : b ≤ n) (hix : ∀ i j, a ≤ i → i < j → j < b → (d i).ix < (d j).ix) :
  Calls Tryz.prog 89 #[.slice (some ⟨g, 0, none⟩) n c, .int .i64 a, .int .i64 b, .func (Fn.func 55) #[] #[.pointer (some ⟨kb, 0, none⟩)]] w fun e w' => ∃ d', e = .returned (.tuple #[]) ∧ Dat w' B g n d' ∧ Sq.Sub d d' a b ∧ Sq.Srt (leK ks) d' a b ∧ Keeps [23] B w w' := by
 have H := Lib.hid h
 have HK := Lib.hid hK
 have Hix := Lib.hid hix
 clear h hK hix
 go_enter Tryz.func89, Tryz.ntmps89
 go_wp2_with fail
 go_loopw [8] (fun vi wr => ∃ (i : Nat) (d' : Nat → Hr), a + 1 ≤ i ∧ (i ≤ b ∨ i = a + 1) ∧ vi = .int .i64 i ∧ Hid (Dat wr B g n d') ∧ Hid (Sq.Sub d d' a b) ∧ Hid (Sq.Sub d d' a i) ∧ Hid (Sq.Srt (leK ks) d' a i) ∧ Hid (Keeps [23] B w wr)) (fun i _ => b - (intOf i).toNat)
 case atStart => exact ⟨a + 1, d, by omega, by omega, by go_num, H.out, Sq.Sub.refl _ _ _, Sq.Sub.refl _ _ _, fun i j x y z => by omega, Keeps.refl _ _ _⟩
 case round =>
  obtain ⟨i, d', hi1, hi2, rfl, Hd, Hs, Hsi, Ho, Hk⟩ := hrel
  by_cases hlt : i < b
  ·have Hins := Lib.hid (Sq.Ins.start Ho.out (by omega : a ≤ i))
   have Hmv : Hid (Sq.Mov Hr.ix d' a i i) := fun p h1 h2 h3 => by
    obtain ⟨q, q1, q2, e⟩ := Hsi.out.in_ p h1 (by omega)
    rw [e, Hsi.out.out i (.inr (Nat.le_refl _))]
    exact Hix.out q i q1 q2 hlt
   have Hsi' := Lib.hid (Hsi.out.wide (Nat.le_refl _) (show i ≤ i + 1 by omega))
   obtain ⟨wq, rfl⟩ : ∃ x : World, x = wr := ⟨_, rfl⟩
   clear Ho Hsi
   go_wp2_with fail
   go_loopw [9] (fun vj wr => ∃ (j : Nat) (d2 : Nat → Hr), a ≤ j ∧ j ≤ i ∧ vj = .int .i64 j ∧ Hid (Dat wr B g n d2) ∧ Hid (Sq.Sub d d2 a b) ∧ Hid (Sq.Sub d d2 a (i + 1)) ∧ Hid (Sq.Mov Hr.ix d2 a i j) ∧ Hid (Sq.Ins (leK ks) d2 a i j) ∧ Hid (Keeps [23] B w wr)) (fun j _ => (intOf j).toNat)
   case atStart => exact ⟨i, d', by omega, by omega, rfl, Hd.out, Hs.out, Hsi'.out, Hmv.out, Hins.out, Hk.out⟩
   case round =>
    clear Hd Hs Hsi' Hmv Hins Hk
    obtain ⟨j, d2, hj1, hj2, rfl, Hd, Hs, Hsi, Hmv, Hins, Hk⟩ := hrel
    by_cases hgt : a < j
    ·obtain ⟨p, rfl⟩ : ∃ p, j = p + 1 := ⟨j - 1, by omega⟩
     have hq : p + 1 < n := by omega
     have hp : p < n := by omega
     have ca := Hd.out.cell hq
     have cb := Hd.out.cell hp
     have fa := Hd.out.blk.frozen (p + 1)
     have fb := Hd.out.blk.frozen p
     obtain ⟨A1, c1, e1, o1, _⟩ := Hd.out.row (p + 1) hq
     obtain ⟨A2, c2, e2, o2, _⟩ := Hd.out.row p hp
     have hcl := scmp_any (d2 (p + 1)).2 (d2 p).2 _ c1 _ c2 A1 A2 B kb kn kc KA ks wr.drew rfl rfl (o1.rd.below (Below.refl _ _).drew) (o2.rd.below (Below.refl _ _).drew) ((HK.out.keeps Hk.out).below (Below.refl _ _).drew) hkn
     have hle := cmp_leK ks (d2 (p + 1)) (d2 p) (Hmv.out p (by omega) (by have := Hins.out.hi; omega) (by omega))
     rw [e1] at ca
     rw [e2] at cb
     have hswp : Hid (∀ w3, Below wr.heap.size wr w3 → Dat ((w3.setCell ⟨g, p + 1, none⟩ (.slice A2 (d2 p).2.length c2)).setCell ⟨g, p, none⟩ (.slice A1 (d2 (p + 1)).2.length c1)) B g n (Sq.swp d2 (p + 1) p) ∧ Keeps [23] B w3 ((w3.setCell ⟨g, p + 1, none⟩ (.slice A2 (d2 p).2.length c2)).setCell ⟨g, p, none⟩ (.slice A1 (d2 (p + 1)).2.length c1))) := fun w3 hb => by
      have := (Hd.out.below hb).swap hq hp
      rw [e1, e2] at this
      exact this
     generalize cmpR ks (d2 (p + 1)).2 (d2 p).2 = R at *
     generalize (d2 (p + 1)).2.length = l1 at *
     generalize (d2 p).2.length = l2 at *
     have Hcl := Lib.hid hcl
     have Hle := Lib.hid hle
     have cad : wr.drew.cell? ⟨g, p + 1, none⟩ = some (.slice A1 l1 c1) := ca
     have cbd : wr.drew.cell? ⟨g, p, none⟩ = some (.slice A2 l2 c2) := cb
     have hgtI : (a : Int) < (p : Int) + 1 := by omega
     have w1 : IntKind.i64.wrap ((p : Int) + 1 - 1) = (p : Int) := by rw [IntKind.wrap_i64]; omega
     have w2 : IntKind.i64.wrap (p : Int) = (p : Int) := by rw [IntKind.wrap_i64]; omega
     have w1' : (p : Int) + 1 - 1 = (p : Int) := by omega
     have t1 : ((p : Int) + 1).toNat = p + 1 := by omega
     have i1 : (0 : Int) ≤ (p : Int) + 1 := by omega
     have j1 : (p : Int) + 1 < (n : Int) := by omega
     have i2 : (0 : Int) ≤ (p : Int) := by omega
     have j2 : (p : Int) < (n : Int) := by omega
     clear hcl hle e1 e2 o1 o2
     go_wp2_with fail
     go_region_held3 (fun w' => w'.cell? ⟨g, p + 1, none⟩ = some (.slice A1 l1 c1) ∧ w'.cell? ⟨g, p, none⟩ = some (.slice A2 l2 c2))
      (first | assumption | exact ⟨ca, cb⟩ | exact ⟨cad, cbd⟩ | exact ⟨ca3, cb3⟩)
      (first | (go_at_call 55; refine Hcl.out.mono ?_; rintro e w3 ⟨rfl, hb3⟩; have ca3 := cell_keep hb3 cad; have cb3 := cell_keep hb3 cbd))
     have hb3' : Below wr.heap.size wr w3 := (Below.refl _ _).drew.trans hb3
     have Hd3 := Lib.hid (Hd.out.below hb3')
     have Hk3 := Lib.hid (Hk.out.then_below hb3')
     have Hsw := Lib.hid (hswp.out w3 hb3')
     have hhi := Hins.out.hi
     clear hb3 hb3' hswp Hcl Hk ca cb cad cbd fa fb
     by_cases hneg : R < 0
     ·have fa := Hd3.out.blk.frozen (p + 1)
      have fb := Hd3.out.blk.frozen p
      have hst := Lib.hid (Sq.Ins.step (leK_ordr ks) Hins.out (by omega) (Hle.out.1 hneg))
      have hsi := Lib.hid (Hsi.out.trans (Sq.swp_sub d2 (lo := a) (hi := i + 1) (i := p + 1) (j := p) (by omega) (by omega)))
      have hmv := Lib.hid (Sq.Mov.swp Hmv.out (by omega) (by omega))
      have hsb := Lib.hid (Hs.out.trans (Sq.swp_sub d2 (lo := a) (hi := b) (i := p + 1) (j := p) (by omega) (by omega)))
      go_wp2_with fail
      go_region
      clear w1 w2 w1' t1 i1 j1 i2 j2
      go_wp2_with fail
      go_roundw
      case rel => exact ⟨p, _, by omega, by omega, by go_num, Hsw.out.1.below (Below.refl _ _).drew, hsb.out, hsi.out, hmv.out, hst.out, (Hk3.out.trans Hsw.out.2).then_below (Below.refl _ _).drew⟩
      case measure => simp [intOf]
     ·have hsr : Hid (Sq.Srt (leK ks) d2 a (i + 1)) := Sq.Ins.done (leK_ordr ks) Hins.out (.inr ⟨by omega, Classical.byContradiction fun h => hneg (Hle.out.2 h)⟩)
      clear w1 w2 w1' t1 i1 j1 i2 j2
      go_wp2_with fail
      go_roundw
      case rel => exact ⟨i + 1, d2, by omega, by omega, by go_num, Hd3.out, Hs.out, Hsi.out, hsr.out, Hk3.out⟩
      case measure => simp [intOf]; omega
    ·have hja : j = a := by omega
     have hsr : Hid (Sq.Srt (leK ks) d2 a (i + 1)) := Sq.Ins.done (leK_ordr ks) Hins.out (.inl hja)
     have hd0 : decide ((a : Int) < (j : Int)) = false := decide_eq_false (by omega)
     have hn0 : ¬ (a : Int) < (j : Int) := by omega
     clear hja
     go_wp2_with fail
     go_region
     go_wp2_with fail
     go_roundw
     case rel => exact ⟨i + 1, d2, by omega, by omega, by go_num, Hd.out.below (Below.refl _ _).drew, Hs.out, Hsi.out, hsr.out, Hk.out.then_below (Below.refl _ _).drew⟩
     case measure => simp [intOf]; omega
  ·have hfin : Sq.Srt (leK ks) d' a b := Ho.out.part (Nat.le_refl _) (by omega)
   go_wp2_with fail
   go_end0
   exact ⟨d', rfl, Hd.out, Hs.out, hfin, Hk.out⟩
end Go.Proofs.YtcadjekcdokkjaaGreat
