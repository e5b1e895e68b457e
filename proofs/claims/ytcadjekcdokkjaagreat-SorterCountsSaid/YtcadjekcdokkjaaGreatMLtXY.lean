/- Walks: a tree of losers: what comes next of a list. Walks: a tree of losers: New. -/
import Derived.Test.YtcadjekcdokkjaaGreatMLtWN
namespace Go.Proofs.YtcadjekcdokkjaaGreat
set_option linter.unusedVariables false
set_option linter.unusedSimpArgs false
open Go.RowKit
attribute [local go_sem ↓] Go.wp_at_zero Go.wp_at_succ
theorem TrAt.put {w : World} {S : Nat → Prop} {bt m sz : Nat} {H : Nat → Option RowM} {ks : List Ky} {sl : Nat → Nat} {g hc : Nat} {hs : List Value} {KA : Option Addr} {kn kc gs : Nat} {z : Int} (h : TrAt w S bt m sz H ks sl (some ⟨g, 0, none⟩) hc hs KA kn kc gs z) {i : Nat} (hi : i < m) {V : Option Addr} {vn vc : Nat} {x : Option RowM} (hv : HdV w S V vn vc x) :
  TrAt (w.setCell ⟨g, i, none⟩ (.slice V vn vc)) S bt m sz (fun p => if p = i then x else H p) ks sl (some ⟨g, 0, none⟩) hc (hs.set i (.slice V vn vc)) KA kn kc gs z ∧ Turns S [] 0 w (w.setCell ⟨g, i, none⟩ (.slice V vn vc)) := by
 have hk : Keeps [23] 0 w (w.setCell ⟨g, i, none⟩ (.slice V vn vc)) := by
  rcases Own.lies h.hds with ⟨ha, _⟩ | ⟨g', cur, ha, hb, hlt, hh, _⟩
  ·cases ha
  ·injection ha with ha
   injection ha with ha _
   subst ha
   have hb2 : Blk w g 23 cur.toList := by unfold Blk; rw [hh]
   exact (Keeps.refl _ _ _).setCell hb2 (by simp) (Nat.zero_le _) _
 have hlen := h.mlen
 refine ⟨⟨h.st, h.blk.keeps (by decide) hk, Own.set1 h.hds hi _, h.inH, (h.rows.keeps (by decide) hk).set (by omega) (HdV.keeps hv (by decide) hk), h.klen, Own.keeps h.keys (by decide) hk, h.inK, h.sg, h.slots.keeps (by decide) hk⟩, Turns.setCell w (h.inH g 0 rfl) _⟩
def TreeW (w : World) (S : Nat → Prop) (bt m sz : Nat) (H : Nat → Option RowM) (ks : List Ky) (q : Nat) : Prop :=
 ∃ sl W HA hc hs KA kn kc gs z, TrAt w S bt m sz H ks sl HA hc hs KA kn kc gs z ∧ Lt.Tr (Lt.beat (cmpR ks) H) sz sl W ∧ sl 0 = W 1 ∧ sl 0 = q ∧ (∀ j, j < sz → sl j < sz) ∧ kn ≤ 1000000
def TreeN (w : World) (S : Nat → Prop) (bt m sz : Nat) (H : Nat → Option RowM) (ks : List Ky) : Prop := ∃ q, TreeW w S bt m sz H ks q
theorem TreeW.good (B bt m sz : Nat) (H : Nat → Option RowM) (ks : List Ky) (q : Nat) : Good B fun w S => TreeW w S bt m sz H ks q := by
 refine ⟨fun w S S' h hs => ?_, fun w S h => ?_, fun w w' S T h hd ht => ?_⟩
 ·obtain ⟨sl, W, HA, hc, hs', KA, kn, kc, gs, z, h1, h2⟩ := h
  exact ⟨sl, W, HA, hc, hs', KA, kn, kc, gs, z, h1.more hs, h2⟩
 ·obtain ⟨sl, W, HA, hc, hs', KA, kn, kc, gs, z, h1, h2⟩ := h
  exact ⟨sl, W, HA, hc, hs', KA, kn, kc, gs, z, h1.bound, h2⟩
 ·obtain ⟨sl, W, HA, hc, hs', KA, kn, kc, gs, z, h1, h2⟩ := h
  exact ⟨sl, W, HA, hc, hs', KA, kn, kc, gs, z, h1.turns (by decide) hd ht, h2⟩
theorem TreeN.good (B bt m sz : Nat) (H : Nat → Option RowM) (ks : List Ky) : Good B fun w S => TreeN w S bt m sz H ks := Good.ex fun q => TreeW.good B bt m sz H ks q
set_option maxHeartbeats 16000000 in
set_option maxRecDepth 100000 in
theorem ltput_c {S : Nat → Prop} {bt m sz : Nat} {H : Nat → Option RowM} {ks : List Ky} {sl : Nat → Nat} {HA : Option Addr} {hc : Nat} {hs : List Value} {KA : Option Addr} {kn kc gs : Nat} {z : Int} {W : Nat → Nat} (V : Option Addr) (vn vc : Nat) (x : Option RowM) (r0 : RowM) (w : World)
  (h : TrAt w S bt m sz H ks sl HA hc hs KA kn kc gs z) (hT : Lt.Tr (Lt.beat (cmpR ks) H) sz sl W) (hW : sl 0 = W 1) (hH : H (sl 0) = some r0) (hv : HdIn w V vn vc x) (hy : ∀ j, w.heap.size ≤ j → S j) (hm : m ≤ 1000) (hkn : kn ≤ 1000000) (hsz : 0 < sz) (hsz2 : sz ≤ 1000) (hbd : ∀ j, j < sz → sl j < sz) :
  Calls Tryz.prog 84 #[.pointer (some ⟨bt, 0, none⟩), .slice V vn vc] w fun e w' => e = .returned (.int .i64 0) ∧ TreeN w' S bt m sz (fun p => if p = sl 0 then x else H p) ks ∧ Turns S [] 0 w w' := by
 have hq0 := hbd 0 hsz
 have hnx := Lib.hid (lnext_any w h (by omega) hsz (by omega))
 have hlen := h.mlen
 have hqm : sl 0 < m := by
  by_cases hq : sl 0 < m
  ·exact hq
  ·have := h.rows.out (sl 0) (by omega)
   rw [hH] at this
   cases this
 obtain ⟨g, o, rfl, _⟩ := (Own.rd h.hds) (fun e => by rw [e] at hlen; simp at hlen; omega)
 obtain rfl : o = 0 := by
  rcases Own.lies h.hds with ⟨ha, _⟩ | ⟨g', cur, ha, _⟩
  ·cases ha
  ·injection ha with ha
   injection ha
 have Htr := Lib.hid (hT.way (bt' := Lt.beat (cmpR ks) (fun p => if p = sl 0 then x else H p)) hsz (fun a b ha hb => Lt.beat_same (p := sl 0) (fun i hi => if_neg hi) a b (by rw [hW]; exact ha) (by rw [hW]; exact hb)))
 have hleaf := hT.leaf (sl 0) hq0
 have hWlt := Lib.hid (fun i h0 h1 => (hT.from_ i h0 h1).1)
 have HH := Lib.hid hH
 rw [← hW] at Htr
 have hB := Lib.hid (Lt.bts_beat (cmpR_cmp ks) (fun p => if p = sl 0 then x else H p))
 have Hbd := Lib.hid hbd
 obtain ⟨q, hq⟩ : ∃ q, sl 0 = q := ⟨_, rfl⟩
 rw [hq] at Htr hleaf HH hB hnx hq0 hqm
 have Hq := Lib.hid hq
 have hpost : (fun p => if p = sl 0 then x else H p) = fun p => if p = q then x else H p := by rw [hq]
 rw [hpost]
 obtain ⟨H', hH'⟩ : ∃ H' : Nat → Option RowM, H' = fun p => if p = q then x else H p := ⟨_, rfl⟩
 rw [← hH']
 rw [← hH'] at Htr hB
 have HH' := Lib.hid hH'
 have Hleaf := Lib.hid hleaf
 have k0 := h.blk.cell 0
 simp only [List.getElem?_cons_zero, List.getElem?_cons_succ] at k0
 obtain ⟨u, hu⟩ : ∃ u, hs[q]? = some u := ⟨_, List.getElem?_eq_getElem (by omega)⟩
 obtain ⟨hcu, hfu⟩ := Own.cell1 h.hds hu
 obtain ⟨U, un, uc, rfl⟩ : ∃ U un uc, u = .slice U un uc := by
  obtain ⟨U, un, uc, h1, _⟩ := h.rows.rd.in_ (p := q) (by omega)
  rw [hu] at h1
  exact ⟨_, _, _, Option.some.inj h1⟩
 have hgl : g < w.drew.heap.size := by
  rcases Own.lies h.hds with ⟨ha, _⟩ | ⟨g', cur, ha, hb, hlt, _⟩
  ·cases ha
  ·injection ha with ha
   injection ha with ha _
   subst ha
   exact hlt
 have hne : g ≠ bt := by
  rcases Own.lies h.hds with ⟨ha, _⟩ | ⟨g', cur, ha, hb, hlt, hh, _⟩
  ·cases ha
  ·injection ha with ha
   injection ha with ha _
   subst ha
   exact Blk.ne_of_type (show Blk w g 23 cur.toList by unfold Blk; rw [hh]) h.blk (by decide)
 have H0 := Lib.hid h
 have Hy := Lib.hid hy
 have hown := Lib.hid (lown_c V vn vc x w.drew (hv.below (Below.refl _ _).drew))
 have hqI : (0 : Int) ≤ (q : Int) := by omega
 have hqI2 : (q : Int) < (m : Int) := by omega
 clear h hT hW hH hv hbd hq hpost hleaf hu hH' hlen
 go_enter Tryz.func84, Tryz.ntmps84
 go_wp2_with fail
 refine hnx.out.mono ?_
 rintro e w' ⟨⟨hno, -⟩ | ⟨r', -, rfl⟩, rfl⟩
 ·rw [HH.out] at hno; cases hno
 ·clear hnx
  have kd0 : w.drew.cell? ⟨bt, 0, none⟩ = some (.slice (some ⟨g, 0, none⟩) m hc) := k0
  have kdu : w.drew.cell? ⟨g, q, none⟩ = some (.slice U un uc) := hcu
  have kdf : w.drew.frozen? ⟨g, q, none⟩ = false := hfu
  go_wp2_with fail
  go_region_held3 (fun w' => w'.cell? ⟨bt, 0, none⟩ = some (.slice (some ⟨g, 0, none⟩) m hc))
   (first | assumption | exact k0 | exact kd0 | exact ka3 | exact (World.cell?_setCell_other _ _ _ _ (fun e => hne (congrArg Addr.block e))).trans ka3 | exact (World.cell?_setCell_other _ _ _ _ (fun e => hne (congrArg Addr.block e).symm)).trans ka3)
   (first | (go_at_call 99; refine hown.out.mono ?_; rintro e w3 ⟨V', vn', vc', rfl, hv3, hb3⟩; have ka3 := cell_keep hb3 kd0; have kb3 := cell_keep hb3 kdu; have kf3 := (hb3.frozen (p := ⟨g, q, none⟩) hgl).trans kdf))
  have h3 := (H0.out.below (Below.refl _ _).drew).below hb3
  obtain ⟨h4, ht4⟩ := h3.put hqm (hv3.more fun i hi => Hy.out i hi)
  rw [← HH'.out] at h4
  have Ht4 := Lib.hid ((Turns.of_below (S := S) (T := []) (B := 0) ((Below.refl w.heap.size w).drew)).trans ((Turns.of_below hb3).trans ht4))
  generalize w3.setCell ⟨g, q, none⟩ (.slice V' vn' vc') = w4 at *
  generalize hs.set q (.slice V' vn' vc') = hs4 at *
  have j2 := h4.blk.cell 2
  simp only [List.getElem?_cons_zero, List.getElem?_cons_succ] at j2
  have H4 := Lib.hid h4
  have hsum : (q : Int) + (sz : Int) = ((sz + q : Nat) : Int) := by omega
  have hdv : ((sz + q : Nat) : Int) / 2 = (((sz + q) / 2 : Nat) : Int) := by omega
  have hdt : ((sz + q : Nat) : Int).tdiv 2 = (((sz + q) / 2 : Nat) : Int) := by rw [Int.tdiv_eq_ediv_of_nonneg (by omega)]; omega
  have hc2 : sz + q < 2 * sz := by omega
  have hc1 : 1 ≤ sz + q := by omega
  have Hst : Hid (W (sz + q) = q) := Hleaf.out
  obtain ⟨c0, hc0⟩ : ∃ c0, sz + q = c0 := ⟨_, rfl⟩
  obtain ⟨i0, hi0⟩ : ∃ i0, c0 / 2 = i0 := ⟨_, rfl⟩
  rw [hc0] at hsum hdv hdt hc2 hc1 Hst Htr
  rw [hi0] at hdv hdt
  have Hi0 := Lib.hid hi0
  have hi9 : i0 < sz := by omega
  clear h3 h4 ht4 hv3 hb3 ka3 kb3 kf3 kd0 kdu kdf hcu hfu hgl hown H0 k0 hq0 hc0 hi0
  go_wp2_with fail
  go_loopw [5, 7] (fun vq vi wr => ∃ (c p ii : Nat) (sl' W' : Nat → Nat) (z' : Int), vi = .int .i64 (ii : Int) ∧ vq = .int .i64 (p : Int) ∧ Hid (c / 2 = ii) ∧ 1 ≤ c ∧ c < 2 * sz ∧ p < sz ∧ ii < sz ∧ Hid (W' c = p) ∧ Hid (Lt.Way (Lt.beat (cmpR ks) H') sz sl' W' c) ∧ Hid (TrAt wr S bt m sz H' ks sl' (some ⟨g, 0, none⟩) hc hs4 KA kn kc gs z') ∧ Hid (∀ j, j < sz → sl' j < sz) ∧ Hid (Turns S [] 0 w wr)) (fun _ vi _ => (intOf vi).toNat)
  case atStart => exact ⟨c0, q, i0, sl, W, z, by go_num, rfl, Hi0, hc1, hc2, by omega, hi9, Hst, Htr, H4, Hbd, Ht4⟩
  case round =>
   clear Hi0 Hst Htr H4 Hbd Ht4 hsum hdv hdt hc1 hc2 hi9 Hleaf HH Hq hWlt j2
   obtain ⟨c, p, ii, sl', W', z', rfl, rfl, Hii, hc1, hc2, hp9, hii9, HWc, Hway, HT, Hbd, Ht⟩ := hrel
   have j2 := HT.out.blk.cell 2
   simp only [List.getElem?_cons_zero, List.getElem?_cons_succ] at j2
   by_cases hpos : 0 < ii
   ·have hc3 : 2 ≤ c := by have := Hii.out; omega
    have hst := Hway.out.step hB.out hc3 hc2
    rw [Hii.out, HWc.out] at hst
    obtain ⟨jc, jf⟩ := HT.out.scell hii9
    have hs9 := Hbd.out ii hii9
    obtain ⟨s, hs⟩ : ∃ s, sl' ii = s := ⟨_, rfl⟩
    rw [hs] at hst jc hs9
    have hbe := Lib.hid (lbeats_any wr HT.out s p (by omega) hkn (by omega) (by omega))
    have Hst := Lib.hid hst
    have hposI : (0 : Int) < (ii : Int) := by omega
    have hii0 : (0 : Int) ≤ (ii : Int) := by omega
    have hiiI : (ii : Int) < (sz : Int) := by omega
    have hd2 : (ii : Int) / 2 = ((ii / 2 : Nat) : Int) := by omega
    have hd3 : (ii : Int).tdiv 2 = ((ii / 2 : Nat) : Int) := by rw [Int.tdiv_eq_ediv_of_nonneg (by omega)]; omega
    have hlt2 : ii / 2 < ii := by omega
    obtain ⟨i2, hi2⟩ : ∃ i2, ii / 2 = i2 := ⟨_, rfl⟩
    rw [hi2] at hd2 hd3 hlt2
    have Hi2 := Lib.hid hi2
    have hii1 : 1 ≤ ii := by omega
    have hii2 : ii < 2 * sz := by omega
    clear hst hs hi2
    go_wp2_with fail
    refine hbe.out.mono ?_
    rintro e w6 ⟨rfl, ⟨z6, h6⟩, ht6⟩
    have l2 := h6.blk.cell 2
    simp only [List.getElem?_cons_zero, List.getElem?_cons_succ] at l2
    obtain ⟨lc, lf⟩ := h6.scell hii9
    have hs6 : sl' ii = s := by
     have := (HT.out.scell hii9).1
     rw [jc] at this
     injection this with this
     injection this with _ this
     omega
    rw [hs6] at lc
    have H6s := Lib.hid (h6.slot ii p)
    have H6 := Lib.hid h6
    have Ht6 := Lib.hid (Ht.out.trans ht6)
    have Hts := Lib.hid (Turns.setCell (S := S) (T := []) (B := 0) w6 (g := gs) (i := ii) h6.sg (.int .i64 (p : Int)))
    clear h6 ht6 hs6 hbe HT Ht
    cases hbb : Lt.beat (cmpR ks) H' s p with
    | true =>
     have Hw := Lib.hid (Hst.out.1 hbb)
     clear hbb
     go_wp2_with fail
     go_region
     go_wp2_with fail
     go_roundw
     case rel =>
      refine ⟨ii, s, i2, Lt.upd sl' ii p, Lt.upd W' ii s, z6, by go_num, by go_num, Hi2, hii1, hii2, hs9, by omega, by show _ = _; rw [Lt.upd_at], Hw, H6s.out.below (Below.refl _ _).drew, fun j hj => ?_, (Ht6.out.trans Hts.out).drewN 1⟩
      unfold Lt.upd
      split
      ·exact hp9
      ·exact Hbd.out j hj
     case measure => simp [intOf]; omega
    | false =>
     have Hw := Lib.hid (Hst.out.2 hbb)
     clear hbb
     go_wp2_with fail
     go_roundw
     case rel => exact ⟨ii, p, i2, sl', Lt.upd W' ii p, z6, by go_num, rfl, Hi2, hii1, hii2, hp9, by omega, by show _ = _; rw [Lt.upd_at], Hw, H6, Hbd, Ht6⟩
     case measure => simp [intOf]; omega
   ·obtain rfl : ii = 0 := by omega
    obtain rfl : c = 1 := by have := Hii.out; omega
    obtain ⟨jc, jf⟩ := HT.out.scell hsz
    have H7 := Lib.hid (HT.out.slot 0 p)
    have hszI : (0 : Int) < (sz : Int) := by omega
    have HTr := Lib.hid (Hway.out.done.zero p)
    have Ht7 := Lib.hid (Ht.out.trans (Turns.setCell (S := S) (T := []) (B := 0) wr (g := gs) (i := 0) HT.out.sg (.int .i64 (p : Int))))
    generalize sl' 0 = s0 at jc
    go_wp2_with fail
    go_ret
    refine ⟨rfl, ⟨p, _, W', _, _, hs4, _, _, _, _, z', H7.out, HTr.out, by rw [Lt.upd_at, HWc.out], by rw [Lt.upd_at], fun j hj => ?_, hkn⟩, Ht7.out⟩
    unfold Lt.upd
    split
    ·exact hp9
    ·exact Hbd.out j hj
theorem tnext_c {S : Nat → Prop} {bt m sz : Nat} {H : Nat → Option RowM} {ks : List Ky} {q : Nat} (w : World) (h : TreeW w S bt m sz H ks q) (hm : m ≤ 1000) (hms : m ≤ sz) (hsz : 0 < sz) (hsz2 : sz ≤ 1000) :
  Calls Tryz.prog 83 #[.pointer (some ⟨bt, 0, none⟩)] w fun e w' => (((∀ j, H j = none) ∧ e = .returned (.tuple #[.int .i64 0, .bool false])) ∨ (∃ r, H q = some r ∧ q < m ∧ (∀ j y, H j = some y → (j < q → 0 < cmpR ks y r) ∧ cmpR ks r y ≤ 0) ∧ e = .returned (.tuple #[.int .i64 (q : Int), .bool true]))) ∧ w = w' := by
 obtain ⟨sl, W, HA, hc, hs, KA, kn, kc, gs, z, h1, h2, h3, h4, h5, h6⟩ := h
 have hq := h5 0 hsz
 have hfi := h2.first (Lt.bts_beat (cmpR_cmp ks) H) hsz
 rw [← h3, h4] at hfi
 have hlen := h1.mlen
 have hout : ∀ j, m ≤ j → H j = none := fun j hj => h1.rows.out j (by omega)
 refine (lnext_any w h1 (by omega) hsz (by omega)).mono ?_
 rw [h4]
 rintro e w' ⟨⟨hno, rfl⟩ | ⟨r, hr, rfl⟩, rfl⟩
 ·refine ⟨.inl ⟨fun j => ?_, rfl⟩, rfl⟩
  by_cases hj : j < sz
  ·exact Lt.first_none (hfi.2 j hj) hno
  ·exact hout j (by omega)
 ·refine ⟨.inr ⟨r, hr, ?_, fun j y hy => ?_, rfl⟩, rfl⟩
  ·by_cases hqm : q < m
   ·exact hqm
   ·rw [hout q (by omega)] at hr
    cases hr
  ·by_cases hj : j < sz
   ·exact Lt.first_some (cmpR_cmp ks) (hfi.2 j hj) hr hy
   ·rw [hout j (by omega)] at hy
    cases hy
theorem tput_c {S : Nat → Prop} {bt m sz : Nat} {H : Nat → Option RowM} {ks : List Ky} {q : Nat} (V : Option Addr) (vn vc : Nat) (x : Option RowM) (r0 : RowM) (w : World) (h : TreeW w S bt m sz H ks q) (hH : H q = some r0) (hv : HdIn w V vn vc x) (hy : ∀ j, w.heap.size ≤ j → S j) (hm : m ≤ 1000) (hsz : 0 < sz) (hsz2 : sz ≤ 1000) :
  Calls Tryz.prog 84 #[.pointer (some ⟨bt, 0, none⟩), .slice V vn vc] w fun e w' => e = .returned (.int .i64 0) ∧ TreeN w' S bt m sz (fun p => if p = q then x else H p) ks ∧ Turns S [] 0 w w' := by
 obtain ⟨sl, W, HA, hc, hs, KA, kn, kc, gs, z, h1, h2, h3, h4, h5, h6⟩ := h
 rw [← h4]
 exact ltput_c V vn vc x r0 w h1 h2 h3 (by rw [h4]; exact hH) hv hy hm h6 hsz hsz2 h5
end Go.Proofs.YtcadjekcdokkjaaGreat
namespace Go.Proofs.YtcadjekcdokkjaaGreat
set_option linter.unusedVariables false
set_option linter.unusedSimpArgs false
open Go.RowKit
attribute [local go_sem ↓] Go.wp_at_zero Go.wp_at_succ
theorem lose_lt {bt : Nat → Nat → Bool} {sz : Nat} {i : Nat} (h0 : 0 < i) (hi : i < sz) : Lt.lose bt sz i < sz := by
 have h1 := Lt.win_lt (bt := bt) (sz := sz) (by omega) (2 * i) (by omega) (by omega)
 have h2 := Lt.win_lt (bt := bt) (sz := sz) (by omega) (2 * i + 1) (by omega) (by omega)
 unfold Lt.lose
 split
 ·exact h1
 ·exact h2
theorem Erows : ElemT Tryz.prog 32 23 1 24 (.slice none 0 0) := ElemT.mk' (by kernel_rfl) (by kernel_rfl) rfl (by omega)
theorem Eints : ElemT Tryz.prog 57 3 1 8 (.int .i64 0) := ElemT.mk' (by kernel_rfl) (by kernel_rfl) rfl (by omega)
def TNewOK (m : Nat) (H : Nat → Option RowM) (ks : List Ky) (w : World) (e : Ending) (w' : World) : Prop :=
 (∃ bt sz q, e = .returned (.tuple #[.pointer (some ⟨bt, 0, none⟩), .int .i64 0]) ∧ TreeW w' (fun i => w.heap.size ≤ i) bt m sz H ks q ∧ m ≤ sz ∧ 0 < sz ∧ sz ≤ 32) ∧ Below w.heap.size w w'
set_option maxHeartbeats 16000000 in
set_option maxRecDepth 100000 in
theorem tnew_c (hs : List Value) (m c : Nat) (A : Option Addr) (H : Nat → Option RowM) (KA : Option Addr) (kn kc : Nat) (ks : List Ky) (w : World) (hm : hs.length = m) (hm16 : m ≤ 16) (hA : Rd w A hs) (hH : HdR w hs H) (hk : ks.length = kn) (hK : Rd w KA (kyc ks)) (hkn : kn ≤ 1000000) :
  Calls Tryz.prog 82 #[.slice A m c, .slice KA kn kc] w fun e w' => TNewOK m H ks w e w' := by
 have Hm := Lib.hid hm
 have HA := Lib.hid hA
 have HH := Lib.hid hH
 have Hk := Lib.hid hk
 have hcl := Lib.hid (clonek_any ks kn kc KA w hk hK hkn)
 obtain ⟨B, hB⟩ : ∃ B, B = w.heap.size := ⟨_, rfl⟩
 have HB := Lib.hid hB
 clear hm hA hH hk hK hB
 have hm16I : ¬ (16 : Int) < (m : Int) := by omega
 go_enter Tryz.func82, Tryz.ntmps82
 go_wp2_with fail
 refine hcl.out.mono ?_
 rintro e w1 ⟨KA1, kc1, rfl, hok1, hb1⟩
 have hz1 := hb1.size
 have hbA : Below w1.heap.size w1 (w1.alloc (.cells #[.slice none 0 0, .slice KA1 kn kc1, .slice none 0 0, .int .i64 0] 141)) := (Below.refl _ _).alloc (Nat.le_refl _) _
 have Hbk2 := Lib.hid (Blk.new w1 141 #[.slice none 0 0, .slice KA1 kn kc1, .slice none 0 0, .int .i64 0])
 have Hkk2 := Lib.hid (Own.below (Own.lower hok1 (Nat.zero_le _)) hbA)
 have Hin2 : Hid (InS (fun i => B ≤ i) KA1) := fun b o e => by
  have := (hok1.lt b (by rw [e]; rfl)).1
  rw [HB.out]
  exact this
 have Hb2 := Lib.hid (hb1.trans (hbA.mono hz1))
 have Hbt : Hid (B ≤ w1.heap.size) := by show _ ≤ _; rw [HB.out]; exact hz1
 clear hok1 hbA hb1 hcl
 go_wp2_with fail
 try generalize hW : w1.alloc (.cells #[.slice none 0 0, .slice KA1 kn kc1, .slice none 0 0, .int .i64 0] 141) = w2 at *
 generalize hV : w1.heap.size = bt at *
 go_loopw [19] (fun vi wr => ∃ (j hc : Nat) (HA1 : Option Addr) (hs1 : List Value), j ≤ m ∧ vi = .int .i64 (j : Int) ∧ Hid (Blk wr bt 141 [.slice HA1 j hc, .slice KA1 kn kc1, .slice none 0 0, .int .i64 0]) ∧ Hid (Own wr B 23 1 HA1 j hc hs1) ∧ Hid (HdO wr (fun i => B ≤ i) hs1 (fun p => if p < j then H p else none)) ∧ Hid (Own wr 0 40 2 KA1 kn kc1 (kyc ks)) ∧ Hid (Below w.heap.size w wr)) (fun vi _ => m - (intOf vi).toNat)
 case atStart => exact ⟨0, 0, none, [], by omega, by go_num, Hbk2, Own.nil _ _ _ _, ⟨fun p _ => by simp, fun p hp => by simp at hp⟩, Hkk2, Hb2⟩
 case round =>
  clear Hbk2 Hkk2 Hb2
  obtain ⟨j, hc, HA1, hs1, hj, rfl, Hbk, Ho, Hrs, Hkk, Hb⟩ := hrel
  have hl1 : Hid (hs1.length = j) := by
   show _ = _
   have := Ho.out.1
   rwa [Nat.mul_one] at this
  by_cases hlt : j < m
  ·have hjl : j < hs.length := by rw [Hm.out]; exact hlt
   obtain ⟨V, vn, vc, hu, hin⟩ := (HH.out.below Hb.out).in_ hjl
   obtain ⟨b, o, rfl, hrg⟩ := (HA.out.below Hb.out) (fun e => by rw [e] at hjl; simp at hjl)
   have cu := hrg j _ hu
   have b0 := Hbk.out.cell 0
   simp only [List.getElem?_cons_zero, List.getElem?_cons_succ] at b0
   have hBr : B ≤ wr.heap.size := by rw [HB.out]; exact Hb.out.size
   have Hin := Lib.hid hin
   clear hu hrg hin hjl
   go_wp2_with fail
   go_region_law
    (first | (go_simp; go_at_call 99; refine (lown_c V vn vc (H j) _ (by exact Hin.out.below (below_drewN' (Below.refl _ _) 1))).mono ?_; rintro e w3 ⟨V3, vn3, vc3, rfl, hv3, hb3'⟩; have hb3 : Below wr.heap.size wr w3 := ⟨hb3'.os, hb3'.tape, hb3'.output, hb3'.size, hb3'.block⟩; have hg3 := Hbk.out.below hb3; have ho3 := Own.below Ho.out hb3; have hba : Below w3.heap.size w3 (w3.alloc (.cells #[.slice V3 vn3 vc3] 23)) := (Below.refl _ _).alloc (Nat.le_refl _) _; have hga := hg3.below hba; have j3 := hg3.cell 0; have ja := hga.cell 0; have hsz3 : B ≤ (w3.alloc (.cells #[.slice V3 vn3 vc3] 23)).heap.size := Nat.le_trans hBr (Nat.le_trans hb3.size hba.size); simp only [List.getElem?_cons_zero, List.getElem?_cons_succ] at j3 ja)
           | (refine step_apd rfl (.tmp 27) (.tmp 30) 32 rfl Erows B HA1 j hc hs1 (by simp [Act.eval, Act.put]) (Own.below ho3 hba) (some ⟨w3.heap.size, 0, none⟩) 1 1 [.slice V3 vn3 vc3] (by simp [Act.eval, Act.put]) rfl (Rd.of_blk (Blk.new w3 23 #[.slice V3 vn3 vc3])) (by simp [Value.oneCell']) (j + 1) rfl (hs1 ++ [.slice V3 vn3 vc3]) rfl (by omega) (by omega) hsz3 ?_; intro A4 c4 w4 ho4 hg4 hat4; have hbk4 := hga.keeps (by decide) ((Own.below ho3 hba).apd_keeps hg4); have j4 := hbk4.cell 0; have f4 := hbk4.frozen 0; simp only [List.getElem?_cons_zero, List.getElem?_cons_succ] at j4))
   all_goals
    have hKa := (Own.below ho3 hba).apd_keeps hg4
    have hBb : B ≤ bt := Hbt.out
    obtain ⟨w5, hw5⟩ : ∃ x, x = w4.setCell ⟨bt, 0, none⟩ (.slice A4 (j + 1) c4) := ⟨_, rfl⟩
    rw [← hw5]
    have hK45 : Keeps [141] 0 w4 w5 := by rw [hw5]; exact (Keeps.refl _ _ _).setCell hbk4 (by simp) (Nat.zero_le _) _
    have Hb5 : Hid (Below w.heap.size w w5) := by
     have x1 := Hb.out.trans (hb3.mono Hb.out.size)
     have x2 := x1.trans (hba.mono x1.size)
     have x3 := x2.trans (hKa.below hsz3 |> fun z => (by rw [HB.out] at z; exact z))
     show Below _ _ _
     rw [hw5]
     exact x3.setCell (p := ⟨bt, 0, none⟩) (by rw [← HB.out]; exact hBb) _
    have Hg5 : Hid (Blk w5 bt 141 [.slice A4 (j + 1) c4, .slice KA1 kn kc1, .slice none 0 0, .int .i64 0]) := Lib.hid (by rw [hw5]; exact hbk4.set_ 0 _)
    have Ho5 := Lib.hid (Own.keeps ho4 (by decide) hK45)
    have Hk5 := Lib.hid (Own.keeps (Own.keeps (Own.below (Own.below Hkk.out hb3) hba) (by decide) hKa) (by decide) hK45)
    have hvv : HdV w5 (fun i => B ≤ i) V3 vn3 vc3 (H j) := ((hv3.more (fun i hi => Nat.le_trans hBr hi) |>.below hba).keeps (by decide) hKa).keeps (by decide) hK45
    have Hr5 : Hid (HdO w5 (fun i => B ≤ i) (hs1 ++ [.slice V3 vn3 vc3]) (fun p => if p < j + 1 then H p else none)) := by
     have h9 := (((((Hrs.out.below hb3).below hba).keeps (by decide) hKa).keeps (by decide) hK45)).snoc hvv
     have e9 : (fun p => if p = hs1.length then H j else if p < j then H p else none) = fun p => if p < j + 1 then H p else none := by
      funext p
      rw [hl1.out]
      by_cases e1 : p = j
      ·rw [if_pos e1, if_pos (by omega), e1]
      ·rw [if_neg e1]
       by_cases e2 : p < j
       ·rw [if_pos e2, if_pos (by omega)]
       ·rw [if_neg e2, if_neg (by omega)]
     rw [e9] at h9
     exact h9
    clear hKa hw5 hK45 ho4 hg4 hat4 hbk4 j4 f4 j3 ja hga hg3 ho3 hba hsz3 hv3 hb3 hvv b0 cu Hbk Ho Hrs Hkk Hb
    go_wp2_with fail
    go_roundw
    case rel => exact ⟨j + 1, c4, A4, _, by omega, by go_num, Hg5, Ho5, Hr5, Hk5, Hb5⟩
    case measure => simp only [intOf, Int.toNat_natCast]; omega
  ·obtain rfl : j = m := by omega
   have Hrs2 : Hid (HdO wr (fun i => B ≤ i) hs1 H) := by
    have e9 : (fun p => if p < j then H p else none) = H := by
     funext p
     by_cases e2 : p < j
     ·rw [if_pos e2]
     ·rw [if_neg e2, HH.out.out p (by rw [Hm.out]; omega)]
    have := Hrs.out
    rw [e9] at this
    exact this
   clear Hrs
   obtain ⟨wa, hwa⟩ : ∃ wa, wa = wr := ⟨_, rfl⟩
   rw [← hwa]
   rw [← hwa] at Hbk Ho Hrs2 Hkk Hb
   clear hwa
   go_wp2_with fail
   go_loopw [9] (fun vi wr => ∃ z : Nat, vi = .int .i64 (z : Int) ∧ 1 ≤ z ∧ z ≤ 32 ∧ wr = wa) (fun vi _ => 32 - (intOf vi).toNat)
   case atStart => exact ⟨1, by go_num, by omega, by omega, rfl⟩
   case round =>
    obtain ⟨z, rfl, hz1', hz2, rfl⟩ := hrel
    by_cases hzm : z < j
    ·have hzI : (z : Int) < (j : Int) := by omega
     go_wp2_with fail
     go_roundw
     case rel => exact ⟨z * 2, by go_num, by omega, by omega, by first | rfl | trivial⟩
     case measure => simp only [intOf]; omega
    ·have hzI : ¬ (z : Int) < (j : Int) := by omega
     have hBr : B ≤ wr.heap.size := by rw [HB.out]; exact Hb.out.size
     go_wp2_with (first | (at_builtin; refine hold ?_) | (at_make; refine hold ?_))
     (with_reducible refine unhold ?_)
     refine wpList_mkn rfl _ _ _ rfl Eints B _ _ _ _ z rfl rfl rfl rfl (by omega) (by unfold maxLen; omega) hBr ?_
     intro w6 ho6 hb6 hlt6
     rw [Nat.mul_one] at ho6
     have hk6 := ho6.blk.1
     rw [show (Value.cells (.int .i64 0)) = #[.int .i64 0] from rfl, toList_madeCells_one] at hk6
     have ht : List.replicate z (Value.int .i64 0) = tab z fun i => .int .i64 (((fun _ : Nat => 0) i : Nat) : Int) := by
      apply List.ext_getElem?
      intro q
      by_cases hq : q < z
      ·rw [tab_get hq, List.getElem?_replicate, if_pos hq]
       rfl
      ·rw [List.getElem?_eq_none (by rw [List.length_replicate]; omega), List.getElem?_eq_none (by rw [tab_len]; omega)]
     rw [ht] at hk6
     have hbk6 := Hbk.out.below hb6
     have b2 := hbk6.cell 2
     have f2 := hbk6.frozen 2
     simp only [List.getElem?_cons_zero, List.getElem?_cons_succ] at b2
     have hgB : B ≤ wr.heap.size := hBr
     have hK67 : Keeps [141] 0 w6 (w6.setCell ⟨bt, 2, none⟩ (.slice (some ⟨wr.heap.size, 0, none⟩) z z)) := (Keeps.refl _ _ _).setCell hbk6 (by simp) (Nat.zero_le _) _
     have h7 : TrAt (w6.setCell ⟨bt, 2, none⟩ (.slice (some ⟨wr.heap.size, 0, none⟩) z z)) (fun i => B ≤ i) bt j z H ks (fun _ => 0) HA1 hc hs1 KA1 kn kc1 wr.heap.size 0 :=
      ⟨Hbt.out, hbk6.set_ 2 _, Own.keeps (Own.below (Own.lower Ho.out (Nat.zero_le _)) hb6) (by decide) hK67, fun b o e => (Ho.out.lt b (by rw [e]; rfl)).1, (Hrs2.out.below hb6).keeps (by decide) hK67, Hk.out, Own.keeps (Own.below Hkk.out hb6) (by decide) hK67, Hin2.out, hgB, hk6.keeps (by decide) hK67⟩
     have Hb7 : Hid (Below w.heap.size w (w6.setCell ⟨bt, 2, none⟩ (.slice (some ⟨wr.heap.size, 0, none⟩) z z))) := by
      have x1 := Hb.out.trans (hb6.mono Hb.out.size)
      exact x1.setCell (p := ⟨bt, 2, none⟩) (by rw [← HB.out]; exact Hbt.out) _
     have hne : wr.heap.size ≠ bt := by have := Hbk.out.lt; omega
     obtain ⟨gs, hgs⟩ : ∃ gs, gs = wr.heap.size := ⟨_, rfl⟩
     rw [← hgs] at h7 Hb7 hne hlt6 ⊢
     have Hgs := Lib.hid hgs
     have hzz : 0 < z := hz1'
     have hpl := Lib.hid (lplay_c (by omega) hkn (by omega) (2 * z) 1 (fun _ => 0) 0 _ (by omega) (by omega) (by omega) (h7.below (Below.refl _ _).drew))
     have j2 := h7.blk.cell 2
     simp only [List.getElem?_cons_zero, List.getElem?_cons_succ, List.set_cons_succ, List.set_cons_zero] at j2
     have H7 := Lib.hid h7
     have hw1 := Lt.win_lt (bt := Lt.beat (cmpR ks) H) (sz := z) hzz 1 (by omega) (by omega)
     have hW1 : Hid (∃ x, Lt.win (Lt.beat (cmpR ks) H) z 1 = x) := ⟨_, rfl⟩
     have HB9 : Hid (Lt.Bts (Lt.beat (cmpR ks) H)) := Lt.bts_beat (cmpR_cmp ks) H
     have hzI0 : (0 : Int) < (z : Int) := by omega
     clear h7 hK67 hbk6 hk6 ht ho6 hb6 hgs Hbk Ho Hrs2 Hkk Hb
     go_wp2_with fail
     generalize w6.setCell ⟨bt, 2, none⟩ (.slice (some ⟨gs, 0, none⟩) z z) = w7 at *
     have jd2 : w7.drew.cell? ⟨bt, 2, none⟩ = some (.slice (some ⟨gs, 0, none⟩) z z) := j2
     go_region_held3 (fun w' => w'.cell? ⟨bt, 2, none⟩ = some (.slice (some ⟨gs, 0, none⟩) z z))
      (first | assumption | exact j2 | exact jd2 | exact k8 | exact (World.cell?_setCell_other _ _ _ _ (fun e => hne (congrArg Addr.block e))).trans k8 | exact (World.cell?_setCell_other _ _ _ _ (fun e => hne (congrArg Addr.block e).symm)).trans k8)
      (first | (go_at_call 100; refine hpl.out.mono ?_; rintro e w8 ⟨rfl, sl8, z8, h8, h8a, h8b, ht8⟩; have k8 := h8.blk.cell 2; simp only [List.getElem?_cons_zero, List.getElem?_cons_succ] at k8; obtain ⟨kc8, kf8⟩ := h8.scell hzz))
     all_goals
      have h9 := h8.slot 0 (Lt.win (Lt.beat (cmpR ks) H) z 1)
      have hb9 : Below w.heap.size w (w8.setCell ⟨gs, 0, none⟩ (.int .i64 ((Lt.win (Lt.beat (cmpR ks) H) z 1 : Nat) : Int))) := by
       have x1 : Below w.heap.size w w7.drew := Hb7.out.drew
       have x2 := x1.trans (ht8.below0 (M := w.heap.size) (fun i hi => by rw [← HB.out]; exact hi) x1.size)
       exact x2.setCell (p := ⟨gs, 0, none⟩) (by rw [← HB.out, Hgs.out]; exact hBr) _
      have HTr : Hid (Lt.Tr (Lt.beat (cmpR ks) H) z (Lt.upd sl8 0 (Lt.win (Lt.beat (cmpR ks) H) z 1)) (Lt.win (Lt.beat (cmpR ks) H) z)) := (Lt.tr_win HB9.out (fun i h0 hi => h8a i h0 hi (Lt.up_one i h0))).zero _
      have Hbd : Hid (∀ q, q < z → Lt.upd sl8 0 (Lt.win (Lt.beat (cmpR ks) H) z 1) q < z) := fun q hq => by
       unfold Lt.upd
       split
       ·exact hw1
       ·rename_i hq0
        rw [h8a q (by omega) hq (Lt.up_one q (by omega))]
        exact lose_lt (by omega) hq
      rw [HB.out] at h9
      have H9 := Lib.hid h9
      have Hb9 := Lib.hid hb9
      clear h8 h8a h8b ht8 k8 kc8 kf8 h9 hb9
      go_wp2_with fail
      go_ret2
      refine ⟨⟨bt, z, _, rfl, ⟨_, _, _, _, _, _, _, _, _, _, H9.out, HTr.out, by rw [Lt.upd_at], by rw [Lt.upd_at], Hbd.out, hkn⟩, by omega, hzz, by omega⟩, Hb9.out⟩
end Go.Proofs.YtcadjekcdokkjaaGreat
