/- Walks: what a row and those of a table come to; rows joined by a table. -/
import Derived.Test.YtghaffafglfdlaaJoV
namespace Go.Proofs.Ytghaffafglfdlaa
open Go.RowKit

attribute [local go_sem ↓] Go.wp_at_zero Go.wp_at_succ

set_option maxHeartbeats 4000000 in
set_option maxRecDepth 100000 in
theorem add_any (rs : List RowM) (hs : List Value) (x : RowM) (xl xc : Nat) (X : Option Addr) (col left : Int) (wm w : World) (B tb mb : Nat) (os : List RowM) (oh : List Value) (on oc : Nat) (O : Option Addr)
    (hR : Rows wm hs rs) (hbt : Blk wm tb 85 [.int .i64 col, .map (some mb)]) (hT : Tab wm B mb col (hs.zip rs)) (hx : x.length = xl) (hX : Rd wm X (rcells x)) (hxc : xl ≤ xc ∧ xc ≤ maxLen) (hxok : ∀ v ∈ x, v.ok)
    (hb : Below wm.heap.size wm w) (hO : Own w wm.heap.size 28 1 O on oc oh) (hOR : RowsO w wm.heap.size oh os) (hon : os.length = on) (hb1 : xl ≤ 1000) (hb2 : ∀ r ∈ rs, r.length ≤ 1000) (hb3 : rs.length ≤ 1000) (hb4 : on ≤ 1000000) :
    Calls Try.prog 30 #[.pointer (some ⟨tb, 0, none⟩), .slice O on oc, .slice X xl xc, .int .i64 left] w fun e w' => ∃ O' oc' oh' M, e = .returned (.slice O' (on + M) oc') ∧ M = (selP (hs.zip rs) col (colAt x left)).length ∧ Own w' wm.heap.size 28 1 O' (on + M) oc' oh' ∧
      RowsO w' wm.heap.size oh' (os ++ ((selP (hs.zip rs) col (colAt x left)).map fun p => x ++ p.2)) ∧ Below wm.heap.size wm w' := by
  have Hx := Lib.hid hx
  have Hon := Lib.hid hon
  have Hb2 := Lib.hid hb2
  have Hxok := Lib.hid hxok
  have hbd : Below w.heap.size w w.drew := (Below.refl _ _).drew
  have hXw := hX.below hb
  have hat := fun w' (h : Rd w' X (rcells x)) => at_any x X xl xc left w' hx h
  have hvok := Lib.hid (colAt_ok hxok left)
  unfold Va.agg at hat
  have hsl := Lib.hid (selP_le (hs.zip rs) col (colAt x left))
  have hpair := fun q hq => selP_rows hR col (colAt x left) (q := q) hq
  have hzl : (hs.zip rs).length ≤ 1000 := by rw [List.length_zip]; omega
  generalize colAt x left = v at *
  generalize hsel : selP (hs.zip rs) col v = sel at *
  have Hsel := Lib.hid hsel
  have Hat := Lib.hid hat
  obtain ⟨A2, c2, hown2, hlks⟩ := hT.looks hvok.out
  unfold Va.agg at hlks
  rw [hsel] at hown2
  rw [hsel] at hlks
  have Hlks := Lib.hid hlks
  have hselR := Lib.hid hown2.rd
  have Hpair := Lib.hid hpair
  obtain ⟨M, hM⟩ : ∃ M, M = sel.length := ⟨_, rfl⟩
  have HM := Lib.hid hM
  rw [← hM] at Hlks
  have hM1 : M ≤ 1000 := by rw [hM]; exact Nat.le_trans hsl.out hzl
  have hm1 := (hbt.below hb).cell 1
  simp only [List.getElem?_cons_zero, List.getElem?_cons_succ] at hm1
  have hm1d : w.drew.cell? ⟨tb, 1, none⟩ = some (.map (some mb)) := hm1
  have hXd : Rd w.drew X (rcells x) := hXw.below hbd
  have hTd : Hid (Tab w.drew B mb col (hs.zip rs)) := (hT.below hb).below hbd
  have hbwd : Hid (Below wm.heap.size wm w.drew) := hb.drew
  have hOd : Hid (Own w.drew wm.heap.size 28 1 O on oc oh) := Own.below hO hbd
  have hORd : Hid (RowsO w.drew wm.heap.size oh os) := hOR.below hbd
  clear hlks hown2 hat hpair hsel hM hx hon hb2 hxok hR hbt
  go_enter Try.func30, Try.ntmps30
  go_wp2_with fail
  go_region_held3 (fun w' => w'.cell? ⟨tb, 1, none⟩ = some (.map (some mb)))
    (first | assumption | exact hm2)
    (first | (go_at_call 36; refine (Hat.out _ hXd).mono ?_; rintro e w2 ⟨rfl, hb2⟩; have hm2 := cell_keep hb2 hm1d; have hlk := Hlks.out w2 (hbwd.out.trans (hb2.mono hbwd.out.size))))
  have hbw2 := hbwd.out.trans (hb2.mono hbwd.out.size)
  have hO2 := Own.below hOd.out hb2
  have hOR2 := hORd.out.below hb2
  have hsz2 := hbw2.size
  have hXm := hX
  obtain ⟨wb, hwb⟩ : ∃ x, x = w2 := ⟨_, rfl⟩
  have Hwb : Hid (Below w2.heap.size w2 wb) := by rw [hwb]; exact Below.refl _ _
  clear hwb hb hO hOR hbd hXw hm1 hm1d hXd hm2 hlk hb2 hOd hORd hTd hbwd hX
  go_wp2_with fail
  go_loopw [1, 20] (fun s i wr => ∃ (q : Nat) (O' : Option Addr) (oc' : Nat) (oh' : List Value), q ≤ M ∧ i = .int .i64 q ∧ s = .slice O' (on + q) oc' ∧ Own wr wm.heap.size 28 1 O' (on + q) oc' oh' ∧ RowsO wr wm.heap.size oh' (os ++ (sel.take q).map fun p => x ++ p.2) ∧ Below wm.heap.size wm wr) (fun _ i _ => M - (intOf i).toNat)
  case atStart => exact ⟨0, O, oc, oh, by omega, rfl, rfl, hO2, by simpa using hOR2, hbw2⟩
  case round =>
    clear hO2 hOR2 hbw2 hsz2
    obtain ⟨q, O', oc', oh', hq, rfl, rfl, ho, hor, hbr⟩ := hrel
    by_cases hlt : q < M
    · have hql : q < sel.length := by rw [← HM.out]; exact hlt
      obtain ⟨E, d, hp1, hd1, hd2, hrE, hyok, hyr⟩ := Hpair.out q hql
      obtain ⟨b, o, rfl, hh⟩ := (hselR.out.below hbr) (fun e => by rw [List.map_eq_nil_iff] at e; rw [e] at hql; simp at hql)
      have c0 := hh q _ (by rw [List.getElem?_map, List.getElem?_eq_getElem hql]; rfl)
      have htk := Lib.hid (List.take_succ_eq_append_getElem (l := sel) (i := q) hql)
      have hyl := Hb2.out _ hyr
      rw [hp1] at c0
      clear hh hp1 hyr
      generalize sel[q] = p at *
      obtain ⟨ph, y⟩ := p
      dsimp only at *
      generalize hyn : y.length = yn at *
      have Hyn := Lib.hid hyn
      have hrX := hXm.below hbr
      have hrE' := hrE.below hbr
      clear hyn hrE
      have hbo := Lib.hid (both_any x y xl xc yn d X E wr Hx.out Hyn.out hrX hrE' hxc ⟨hd1, hd2⟩ Hxok.out hyok (by omega))
      have hszr := hbr.size
      have Hyok := Lib.hid hyok
      clear hrX hrE' hyok
      go_wp2_with fail
      refine hbo.out.mono ?_
      rintro e w3 ⟨A3, c3, rfl, ho3, hb3'⟩
      have hz3 := hb3'.size
      have hbW : Below w3.heap.size w3 (w3.alloc (.cells #[.slice A3 (xl + yn) c3] 28)) := (Below.refl _ _).alloc (Nat.le_refl _) _
      have hnew := (Blk.new w3 28 #[.slice A3 (xl + yn) c3]).range
      have ho4 := Own.below (Own.below ho hb3') hbW
      have hor4 := ((hor.below hb3').below hbW)
      have hrow4 := Own.base (Own.below ho3 hbW) hszr
      have hb4' := (hbr.trans (hb3'.mono hszr)).trans (hbW.mono (by omega))
      clear ho hor ho3 hbr hb3' hbW
      go_wp2_with (first | (at_builtin; refine hold ?_) | (at_make; refine hold ?_))
      (with_reducible refine unhold ?_)
      refine wpList_apd rfl _ _ _ rfl Erow wm.heap.size _ (on + q) _ oh' rfl ho4 _ 1 _ [.slice A3 (xl + yn) c3] rfl rfl (fun _ => ⟨_, _, rfl, hnew⟩) (by simp [Value.oneCell']) (on + (q + 1)) (by omega) (oh' ++ [.slice A3 (xl + yn) c3]) rfl (by omega) (by omega) (by rw [World.size_alloc]; omega) ?_
      intro A5 c5 w5 ho5 hg5 _
      have hk5 := ho4.apd_keeps hg5
      have hb5 := hb4'.grown hg5 hb4'.size ho4.row_ge
      have hlen : (x ++ y).length = xl + yn := by rw [List.length_append, Hx.out, Hyn.out]
      have hor5 := (hor4.keeps (by decide) hk5).snoc (r := x ++ y) (A := A3) (c := c3) (by rw [hlen]; exact Own.keeps hrow4 (by decide) hk5) (fun v hv => (List.mem_append.1 hv).elim (Hxok.out v) (Hyok.out v))
      rw [hlen] at hor5
      have Hor5 := Lib.hid hor5
      clear hor5 hlen
      go_wp2_with fail
      go_roundw
      case rel =>
        refine ⟨q + 1, A5, c5, _, by omega, by go_num, rfl, ho5, ?_, hb5⟩
        rw [htk.out, List.map_append, ← List.append_assoc]
        exact Hor5.out
      case measure => simp [intOf]; omega
    · obtain rfl : q = M := by omega
      rw [List.take_of_length_le (by rw [← HM.out]; exact Nat.le_refl _)] at hor
      go_wp2_with fail
      go_ret
      exact ⟨O', oc', oh', q, rfl, HM.out, ho, hor, hbr⟩
end Go.Proofs.Ytghaffafglfdlaa
