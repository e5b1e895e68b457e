/- Walks: rows in order joined, on: rows that are in order. -/
import Derived.Test.YtghaffafglfdlaaMeP
import Derived.Deep.Cut
import Derived.Deep.CutRange
import Derived.Deep.QuietTactic
import Derived.BigQuiet
namespace Go.Proofs.Ytghaffafglfdlaa
open Go.RowKit

attribute [local go_sem ↓] Go.wp_at_zero Go.wp_at_succ

set_option maxRecDepth 100000 in
theorem at_is (r : RowM) (A : Option Addr) (n c : Nat) (col : Int) (w : World) (hn : r.length = n) (hr : Rd w A (rcells r)) :
    Calls Try.prog 36 #[.slice A n c, .int .i64 col] w fun e w' => e = .returned (colAt r col).agg ∧ w' = w.alloc (.cells #[.int .u8 (colAt r col).k, .int .i64 (colAt r col).n, .string (St8 (colAt r col).s)] 30) := by
  by_cases h0 : col < 0
  · have hv : Hid (colAt r col = Va.nil) := by show _ = _; unfold colAt; rw [if_pos (.inl h0)]
    go_enter Try.func36, Try.ntmps36
    go_wp2_with fail
    go_returns
    rw [hv.out]
    exact ⟨rfl, rfl⟩
  · obtain ⟨k, rfl⟩ := Int.eq_ofNat_of_zero_le (show 0 ≤ col by omega)
    by_cases h1 : n ≤ k
    · have hv : Hid (colAt r (k : Int) = Va.nil) := by show _ = _; unfold colAt; rw [if_pos (.inr (by omega))]
      go_enter Try.func36, Try.ntmps36
      go_wp2_with fail
      go_returns
      rw [hv.out]
      exact ⟨rfl, rfl⟩
    · have hk : k < r.length := by omega
      have hv : Hid (colAt r (k : Int) = r[k]) := by
        show _ = _
        unfold colAt
        rw [if_neg (by omega), Int.toNat_natCast, List.getD, List.getElem?_eq_getElem hk]
        rfl
      obtain ⟨b, o, rfl, c0, c1, c2⟩ := row_cells (hr.alloc (.cells #[.int .u8 0, .int .i64 0, .string ⟨#[]⟩] 30)) hk
      have hkn : k < n := by omega
      clear hn hr
      generalize r[k] = v at *
      go_enter Try.func36, Try.ntmps36
      go_wp2_with fail
      go_returns
      rw [hv.out]
      exact ⟨rfl, rfl⟩

set_option maxHeartbeats 16000000 in
set_option maxRecDepth 100000 in
theorem merge_yes (ra rb : List RowM) (ha hb : List Value) (n c n' c' : Nat) (A A' : Option Addr) (l r : Int) (w : World) (hn : ra.length = n) (hn' : rb.length = n') (hA : Rd w A ha) (hA' : Rd w A' hb) (hRa : Rows w ha ra) (hRb : Rows w hb rb) (hn1 : n ≤ 1000) (hn2 : n' ≤ 1000) (hnc : n ≤ c) (hnc' : n' ≤ c') (hc9 : c ≤ 9223372036854775807) (hc9' : c' ≤ 9223372036854775807) (hra : ∀ x ∈ ra, ∀ v ∈ x, rightV v = true) (hrb : ∀ x ∈ rb, ∀ v ∈ x, rightV v = true) (hla : ∀ x ∈ ra, x.length ≤ 1000) (hlb : ∀ x ∈ rb, x.length ≤ 1000) (h0 : ¬ l < 0) (h1 : ¬ r < 0) (hsa : inOrder ra l) (hsb : inOrder rb r) :
    Calls Try.prog 24 #[.slice A n c, .slice A' n' c', .int .i64 l, .int .i64 r] w fun e w' => ∃ (O : Option Addr) (L oc : Nat) (oh : List Value), e = .returned (.tuple #[.slice O L oc, .int .i64 0]) ∧ (nested ra rb l r).length = L ∧ Own w' w.heap.size 28 1 O L oc oh ∧ RowsO w' w.heap.size oh (nested ra rb l r) ∧ Below w.heap.size w w' := by
  have hb1 : Below w.heap.size w (w.alloc (.cells #[.int .i64 l, .bool false] 54)) := (Below.refl _ _).alloc (Nat.le_refl _) _
  have hk := Blk.new w 54 #[.int .i64 l, .bool false]
  have hc := osorted_any ra ha n c A w.heap.size 1 l _ hn (hA.below hb1) (hRa.below hb1) (by omega) (hk.cell 0) (hk.cell 1)
  have Hb := Lib.hid (fun (w3 : World) (hb3 : Below w.heap.size w w3) => osorted_any rb hb n' c' A' w3.heap.size 1 r (w3.alloc (.cells #[.int .i64 r, .bool false] 54)) hn' ((hA'.below hb3).below ((Below.refl _ _).alloc (Nat.le_refl _) _)) ((hRb.below hb3).below ((Below.refl _ _).alloc (Nat.le_refl _) _)) (by omega) ((Blk.new w3 54 #[.int .i64 r, .bool false]).cell 0) ((Blk.new w3 54 #[.int .i64 r, .bool false]).cell 1))
  rw [inOrderB_true hsa] at hc
  rw [inOrderB_true hsb] at Hb
  have Hc := Lib.hid hc
  have Hn := Lib.hid hn
  have Hn' := Lib.hid hn'
  have HA := Lib.hid hA
  have HA' := Lib.hid hA'
  have HRa := Lib.hid hRa
  have HRb := Lib.hid hRb
  have Hra := Lib.hid hra
  have Hrb := Lib.hid hrb
  have Hla := Lib.hid hla
  have Hlb := Lib.hid hlb
  have Hoa := Lib.hid (ord_of hsa)
  have Hob := Lib.hid (ord_of hsb)
  have hnl := nested_le rb l r ra
  rw [hn, hn'] at hnl
  have hnl2 : (nested ra rb l r).length ≤ 1000000 := Nat.le_trans hnl (Nat.mul_le_mul hn1 hn2)
  have HX : Hid ((nested ra rb l r).length ≤ 1000000) := hnl2
  clear hc hk hn hn' hA hA' hRa hRb hra hrb hla hlb hsa hsb hnl hnl2
  go_enter Try.func24, Try.ntmps24
  go_wp2_with fail
  refine Hc.out.mono ?_
  rintro e w3 ⟨rfl, hb3⟩
  have hb03 := hb1.trans (hb3.mono hb1.size)
  have hbA : Below w3.heap.size w3 (w3.alloc (.cells #[.int .i64 r, .bool false] 54)) := (Below.refl _ _).alloc (Nat.le_refl _) _
  have Hc2 := Lib.hid (Hb.out w3 hb03)
  clear Hc hb1
  go_wp2_with fail
  refine Hc2.out.mono ?_
  rintro e w4 ⟨rfl, hb4⟩
  have Hb4 := Lib.hid (hb03.trans ((hbA.trans (hb4.mono hbA.size)).mono hb03.size))
  clear Hc2 Hb hb3 hb03 hbA hb4
  go_wp2_with fail
  go_loopw [0, 1, 10] (fun va vb vo wr => ∃ (i k L oc ca cb : Nat) (AA BB O : Option Addr) (oh : List Value) (os : List RowM), i ≤ n ∧ k ≤ n' ∧ va = .slice AA (n - i) ca ∧ vb = .slice BB (n' - k) cb ∧ vo = .slice O L oc ∧ n - i ≤ ca ∧ ca ≤ 9223372036854775807 ∧ n' - k ≤ cb ∧ cb ≤ 9223372036854775807 ∧ Hid (os.length = L) ∧ Hid (os ++ nested (ra.drop i) (rb.drop k) l r = nested ra rb l r) ∧ Hid (Rd w AA (ha.drop i)) ∧ Hid (Rd w BB (hb.drop k)) ∧ Hid (Own wr w.heap.size 28 1 O L oc oh) ∧ Hid (RowsO wr w.heap.size oh os) ∧ Hid (Below w.heap.size w wr)) (fun va vb _ _ => lenV va + lenV vb)
  case atStart => exact ⟨0, 0, 0, 0, c, c', A, A', none, [], [], by omega, by omega, rfl, rfl, rfl, by omega, hc9, by omega, hc9', rfl, by show _ = _; rw [List.drop_zero, List.drop_zero, List.nil_append], by rw [List.drop_zero]; exact HA.out, by rw [List.drop_zero]; exact HA'.out, Own.nil _ _ _ _, RowsO.nil _ _, Hb4.out⟩
  case round =>
    clear Hb4
    obtain ⟨i, k, L, oc, ca, cb, AA, BB, O, oh, os, hi, hk, rfl, rfl, rfl, hca, hca9, hcb, hcb9, HL, Heq, Hda, Hdb, Ho, Hor, Hbw⟩ := hrel
    have hzw := Hbw.out.size
    by_cases hlt : i < n ∧ k < n'
    · obtain ⟨hin, hkn⟩ := hlt
      have hil : i < ra.length := by rw [Hn.out]; exact hin
      have hkl : k < rb.length := by rw [Hn'.out]; exact hkn
      have Hdra := Lib.hid (List.drop_eq_getElem_cons hil)
      have Hdrb := Lib.hid (List.drop_eq_getElem_cons hkl)
      have hdl : i < ha.length := by rw [HRa.out.len]; exact hil
      have hdl' : k < hb.length := by rw [HRb.out.len]; exact hkl
      obtain ⟨E1, d1, e1, e2, e3, e4, e5⟩ := (HRa.out.below Hbw.out).at_ i ra[i] (List.getElem?_eq_getElem hil)
      obtain ⟨E2, d2, f1, f2, f3, f4, f5⟩ := (HRb.out.below Hbw.out).at_ k rb[k] (List.getElem?_eq_getElem hkl)
      obtain ⟨ba, oa, rfl, hra⟩ := (Hda.out.below Hbw.out) (by intro e; rw [List.drop_eq_nil_iff] at e; omega)
      obtain ⟨bb, ob, rfl, hrb⟩ := (Hdb.out.below Hbw.out) (by intro e; rw [List.drop_eq_nil_iff] at e; omega)
      have c1 := hra 0 _ (by rw [List.getElem?_drop, Nat.add_zero]; exact e1)
      have c2 := hrb 0 _ (by rw [List.getElem?_drop, Nat.add_zero]; exact f1)
      rw [Nat.add_zero] at c1 c2
      obtain ⟨m, hm⟩ : ∃ m, runN (ra.drop i) l = m := ⟨_, rfl⟩
      obtain ⟨m', hm'⟩ : ∃ m', runN (rb.drop k) r = m' := ⟨_, rfl⟩
      obtain ⟨hm0, hm1, hm0', hm1', hsA, hsB, hsC⟩ := step_facts Hdra.out Hdrb.out Hoa.out Hob.out Hra.out Hrb.out rfl rfl hm hm'
      rw [Hn.out] at hm1
      rw [Hn'.out] at hm1'
      have Hm := Lib.hid hm
      have Hm' := Lib.hid hm'
      clear hm hm'
      generalize ra[i] = x at *
      generalize rb[k] = y at *
      generalize hxl : x.length = xl at *
      generalize hyl : y.length = yl at *
      have hax := Lib.hid (fun w' (h : Below wr.heap.size wr w') => at_is x E1 xl d1 l w' hxl (e4.below h))
      have hay := Lib.hid (fun w' (h : Below wr.heap.size wr w') => at_is y E2 yl d2 r w' hyl (f4.below h))
      generalize hvx : colAt x l = vx at *
      generalize hvy : colAt y r = vy at *
      have Hvx := Lib.hid hvx
      have Hvy := Lib.hid hvy
      have hcmp := Lib.hid (fun w' => compare_any vx vy w')
      obtain ⟨k1, n1, s1⟩ := vx
      obtain ⟨k2, n2, s2⟩ := vy
      unfold Va.agg at hax hay hcmp
      dsimp only at hax hay hcmp
      have hpi : (0 : Int) < ((n - i : Nat) : Int) := by omega
      have hpk : (0 : Int) < ((n' - k : Nat) : Int) := by omega
      have hpi' : 0 < n - i := by omega
      have hpk' : 0 < n' - k := by omega
      have lt1 := World.block_lt_of_cell? wr _ c1
      have lt2 := World.block_lt_of_cell? wr _ c2
      have nn1 := World.new_ne wr _ c1
      have nn2 := World.new_ne wr _ c2
      dsimp only at lt1 lt2 nn1 nn2
      have nn3 : wr.heap.size + 1 ≠ ba := by omega
      have nn4 : wr.heap.size + 1 ≠ bb := by omega
      have nn5 : wr.heap.size + 1 + 1 ≠ ba := by omega
      have nn6 : wr.heap.size + 1 + 1 ≠ bb := by omega
      have nn7 : wr.heap.size + 1 + 1 + 1 ≠ ba := by omega
      have nn8 : wr.heap.size + 1 + 1 + 1 ≠ bb := by omega
      have ha1 : ∀ o, (wr.alloc o).cell? ⟨ba, oa, none⟩ = some (.slice E1 xl d1) := fun o => cell_keep ((Below.refl _ _).alloc (Nat.le_refl _) o) c1
      have ha2 : ∀ o o2, ((wr.alloc o).alloc o2).cell? ⟨ba, oa, none⟩ = some (.slice E1 xl d1) := fun o o2 => cell_keep ((Below.refl _ _).alloc (Nat.le_refl _) o2) (ha1 o)
      have ha3 : ∀ o o2 o3, (((wr.alloc o).alloc o2).alloc o3).cell? ⟨ba, oa, none⟩ = some (.slice E1 xl d1) := fun o o2 o3 => cell_keep ((Below.refl _ _).alloc (Nat.le_refl _) o3) (ha2 o o2)
      have hb1 : ∀ o, (wr.alloc o).cell? ⟨bb, ob, none⟩ = some (.slice E2 yl d2) := fun o => cell_keep ((Below.refl _ _).alloc (Nat.le_refl _) o) c2
      have hb2 : ∀ o o2, ((wr.alloc o).alloc o2).cell? ⟨bb, ob, none⟩ = some (.slice E2 yl d2) := fun o o2 => cell_keep ((Below.refl _ _).alloc (Nat.le_refl _) o2) (hb1 o)
      have hb3 : ∀ o o2 o3, (((wr.alloc o).alloc o2).alloc o3).cell? ⟨bb, ob, none⟩ = some (.slice E2 yl d2) := fun o o2 o3 => cell_keep ((Below.refl _ _).alloc (Nat.le_refl _) o3) (hb2 o o2)
      have tok1 : True := trivial
      clear hvx hvy e1 e2 e3 e4 f1 f2 f3 f4 hra hrb hxl hyl
      go_upto_region 5 with fail
      go_cut [11, 12] from 42 to 120 (fun vx vy wx => ∃ bx by', vx = .pointer (some ⟨bx, 0, none⟩) ∧ vy = .pointer (some ⟨by', 0, none⟩) ∧ Hid (Below wr.heap.size wr wx) ∧ Hid (Blk wx bx 30 [.int .u8 k1, .int .i64 n1, .string (St8 s1)]) ∧ Hid (Blk wx by' 30 [.int .u8 k2, .int .i64 n2, .string (St8 s2)]))
      case first =>
        go_region_law (first | (go_simp; go_at_call 36; have _t := tok1; refine (hax.out _ (by go_grown)).mono ?_; rintro e w3 ⟨rfl, rfl⟩; clear tok1 _t) | (go_simp; go_at_call 36; refine (hay.out _ (by go_grown)).mono ?_; rintro e w4 ⟨rfl, rfl⟩))
        all_goals (go_wp2_with fail; go_meet)
        all_goals exact ⟨_, _, rfl, rfl, (by show Below _ _ _; go_grown), (by show Blk _ _ _ _; first | exact box4 _ _ _ _ _ _ | exact box3 _ _ _ _ _ _ | exact box2 _ _ _ _ _ _ | exact box1 _ _ _ _ _ _), (by show Blk _ _ _ _; first | exact box4 _ _ _ _ _ _ | exact box3 _ _ _ _ _ _ | exact box2 _ _ _ _ _ _ | exact box1 _ _ _ _ _ _)⟩
      case rest =>
        clear tok1 ha1 ha2 ha3 hb1 hb2 hb3 nn1 nn2 nn3 nn4 nn5 nn6 nn7 nn8 hax hay c1 c2
        obtain ⟨bx, by', rfl, rfl, Hbc, Hbx, Hby⟩ := hcut
        have hszc := Hbc.out.size
        have Hwc := Lib.hid (Hbw.out.trans (Hbc.out.mono hzw))
        have hr1 := run_any (ra.drop i) (ha.drop i) (n - i) ca (some ⟨ba, oa, none⟩) l wc (by rw [List.length_drop, Hn.out]) (Hda.out.below Hwc.out) ((HRa.out.below Hwc.out).drop i) (by omega)
        rw [Hm.out] at hr1
        have Hr1 := Lib.hid hr1
        have hr2 := fun (w' : World) (h : Below w.heap.size w w') => run_any (rb.drop k) (hb.drop k) (n' - k) cb (some ⟨bb, ob, none⟩) r w' (by rw [List.length_drop, Hn'.out]) (Hdb.out.below h) ((HRb.out.below h).drop k) (by omega)
        rw [Hm'.out] at hr2
        have Hr2 := Lib.hid hr2
        clear hr1 hr2
        go_wp2_with fail
        refine Hr1.out.mono ?_
        rintro e w5 ⟨rfl, hb5⟩
        have Hv5 := Lib.hid (Hbc.out.trans (hb5.mono hszc))
        have Hw5 := Lib.hid (Hwc.out.trans (hb5.mono Hwc.out.size))
        have Hr3 := Lib.hid (Hr2.out w5 Hw5.out)
        go_wp2_with fail
        refine Hr3.out.mono ?_
        rintro e w6 ⟨rfl, hb6⟩
        have Hv6 := Lib.hid (Hv5.out.trans (hb6.mono Hv5.out.size))
        have Hbx6 := Lib.hid ((Hbx.out.below hb5).below hb6)
        have Hby6 := Lib.hid ((Hby.out.below hb5).below hb6)
        have hx0 := Hbx6.out.cell 0
        have hx1 := Hbx6.out.cell 1
        have hx2 := Hbx6.out.cell 2
        have hy0 := Hby6.out.cell 0
        have hy1 := Hby6.out.cell 1
        have hy2 := Hby6.out.cell 2
        simp only [List.getElem?_cons_zero, List.getElem?_cons_succ] at hx0 hx1 hx2 hy0 hy1 hy2
        have Hcmp := Lib.hid (hcmp.out w6)
        have hCk := @cmpVa_k ⟨k1, n1, s1⟩ ⟨k2, n2, s2⟩
        generalize cmpVa ⟨k1, n1, s1⟩ ⟨k2, n2, s2⟩ = C at *
        dsimp only at hCk hsA hsB hsC
        have h5w := five_ways k1 k2 C hCk
        have HsA := Lib.hid hsA
        have HsB := Lib.hid hsB
        have HsC := Lib.hid hsC
        clear Hr1 Hr2 Hr3 Hbx Hby hCk hsA hsB hsC hb5 hb6 hcmp Hwc Hw5 Hbc Hv5
        go_wp2_with fail
        refine Hcmp.out.mono ?_
        rintro e w7 ⟨rfl, hb7⟩
        have hv7 := Hv6.out.trans (hb7.mono Hv6.out.size)
        have Hw7 := Lib.hid (Hbw.out.trans (hv7.mono hzw))
        have hx0 := (Hbx6.out.below hb7).cell 0
        have hy0 := (Hby6.out.below hb7).cell 0
        simp only [List.getElem?_cons_zero, List.getElem?_cons_succ] at hx0 hy0
        have hz7 := Hw7.out.size
        have Ho7 := Lib.hid (Own.below Ho.out hv7)
        have Hor7 := Lib.hid (Hor.out.below hv7)
        clear hv7 Hv6 Hbw Ho Hor Hbx6 Hby6 hb7 hx1 hx2 hy1 hy2 Hcmp
        have hmI : (m : Int) ≤ ((n - i : Nat) : Int) := by omega
        have hmI' : (m' : Int) ≤ ((n' - k : Nat) : Int) := by omega
        have hm0I : (0 : Int) ≤ (m : Int) := by omega
        have hm0I' : (0 : Int) ≤ (m' : Int) := by omega
        have Hla2 := Lib.hid (HRa.out.len.trans Hn.out)
        have Hlb2 := Lib.hid (HRb.out.len.trans Hn'.out)
        rcases h5w with h1 | ⟨h1, h2, h3⟩ | ⟨h1, h2, h3⟩ | ⟨h1, h2, h3, h4⟩ | ⟨h1, h2, h3⟩
        · have e1 : (k1 == 0) = true := by simpa using h1
          have Heq2 := Lib.hid (HsA.out (.inl h1))
          clear HsA HsB HsC
          go_wp2_with fail
          exact ⟨⟨i + m, k, L, oc, ca - m, cb, if ca = m then some ⟨ba, oa, none⟩ else some ⟨ba, oa + m, none⟩, some ⟨bb, ob, none⟩, O, oh, os, by omega, hk, by rw [Nat.sub_sub], rfl, rfl, by omega, by omega, hcb, hcb9, HL, (by show _ = _; rw [← Heq2.out]; exact Heq.out), Hda.out.ahead Hla2.out hca, Hdb, Ho7, Hor7, Hw7⟩, by dsimp only [lenV]; omega⟩
        · have e1 : (k1 == 0) = false := by simpa using h1
          have e2 : (k2 != 0) = true := by simpa using h2
          have Heq2 := Lib.hid (HsA.out (.inr ⟨h2, h3⟩))
          clear HsA HsB HsC
          go_wp2_with fail
          exact ⟨⟨i + m, k, L, oc, ca - m, cb, if ca = m then some ⟨ba, oa, none⟩ else some ⟨ba, oa + m, none⟩, some ⟨bb, ob, none⟩, O, oh, os, by omega, hk, by rw [Nat.sub_sub], rfl, rfl, by omega, by omega, hcb, hcb9, HL, (by show _ = _; rw [← Heq2.out]; exact Heq.out), Hda.out.ahead Hla2.out hca, Hdb, Ho7, Hor7, Hw7⟩, by dsimp only [lenV]; omega⟩
        · have e1 : (k1 == 0) = false := by simpa using h1
          have e2 : (k2 != 0) = false := by simpa using h2
          have e4 : (C != 0) = true := by simpa using h3
          have Heq2 := Lib.hid (HsB.out h1 (.inl h2) h3)
          clear HsA HsB HsC
          go_wp2_with fail
          exact ⟨⟨i, k + m', L, oc, ca, cb - m', some ⟨ba, oa, none⟩, if cb = m' then some ⟨bb, ob, none⟩ else some ⟨bb, ob + m', none⟩, O, oh, os, hi, by omega, rfl, by rw [Nat.sub_sub], rfl, hca, hca9, by omega, by omega, HL, (by show _ = _; rw [← Heq2.out]; exact Heq.out), Hda, Hdb.out.ahead Hlb2.out hcb, Ho7, Hor7, Hw7⟩, by dsimp only [lenV]; omega⟩
        · have e1 : (k1 == 0) = false := by simpa using h1
          have e2 : (k2 != 0) = true := by simpa using h2
          have e4 : (C != 0) = true := by simpa using h4
          have Heq2 := Lib.hid (HsB.out h1 (.inr h3) h4)
          clear HsA HsB HsC
          go_wp2_with fail
          exact ⟨⟨i, k + m', L, oc, ca, cb - m', some ⟨ba, oa, none⟩, if cb = m' then some ⟨bb, ob, none⟩ else some ⟨bb, ob + m', none⟩, O, oh, os, hi, by omega, rfl, by rw [Nat.sub_sub], rfl, hca, hca9, by omega, by omega, HL, (by show _ = _; rw [← Heq2.out]; exact Heq.out), Hda, Hdb.out.ahead Hlb2.out hcb, Ho7, Hor7, Hw7⟩, by dsimp only [lenV]; omega⟩
        · have e1 : (k1 == 0) = false := by simpa using h1
          have e2 : (k2 != 0) = true := by simpa using h2
          have e4 : (C != 0) = false := by simpa using h3
          have h3' : ¬ C < 0 := by omega
          have heq2 := HsC.out h1 h3
          obtain ⟨XS, hXS⟩ : ∃ z, z = (ra.drop i).take m := ⟨_, rfl⟩
          obtain ⟨YS, hYS⟩ : ∃ z, z = (rb.drop k).take m' := ⟨_, rfl⟩
          rw [← hXS, ← hYS] at heq2
          have hXl : XS.length = m := by rw [hXS, List.length_take, List.length_drop, Hn.out]; omega
          have hYl : YS.length = m' := by rw [hYS, List.length_take, List.length_drop, Hn'.out]; omega
          have hall : allPairs XS YS = XS.flatMap fun p => YS.map (p ++ ·) := rfl
          rw [← hall] at heq2
          have hsum : L + m * m' ≤ 1000000 := by
            have h5 := congrArg List.length Heq.out
            rw [heq2, List.length_append, List.length_append, allPairs_len, hXl, hYl, HL.out] at h5
            have h6 := HX.out
            omega
          have Heq2 := Lib.hid heq2
          have HXl := Lib.hid hXl
          have HYl := Lib.hid hYl
          have HXS := Lib.hid hXS
          have HYS := Lib.hid hYS
          have hmca : m ≤ ca := by omega
          have hmcb : m' ≤ cb := by omega
          have hmcaI : (m : Int) ≤ (ca : Int) := by omega
          have hmcbI : (m' : Int) ≤ (cb : Int) := by omega
          clear HsA HsB HsC heq2 hXl hYl hall hXS hYS
          obtain ⟨T, hT⟩ : ∃ T, T = m * m' := ⟨_, rfl⟩
          have HT := Lib.hid hT
          rw [← hT] at hsum
          clear hT
          go_wp2_with fail
          go_loopw [10, 73] (fun vo vi wq => ∃ (q Q : Nat) (O2 : Option Addr) (oc2 : Nat) (oh2 : List Value), q ≤ m ∧ vi = .int .i64 q ∧ vo = .slice O2 (L + Q) oc2 ∧ Hid (Q = q * m') ∧ Hid (Own wq w.heap.size 28 1 O2 (L + Q) oc2 oh2) ∧ Hid (RowsO wq w.heap.size oh2 (os ++ allPairs (XS.take q) YS)) ∧ Hid (Below w.heap.size w wq)) (fun _ vi _ => m - (intOf vi).toNat)
          case atStart => exact ⟨0, 0, O, oc, oh, by omega, rfl, rfl, (by show _ = _; rw [Nat.zero_mul]), Ho7, (by show RowsO _ _ _ _; rw [List.take_zero]; show RowsO _ _ _ (os ++ []); rw [List.append_nil]; exact Hor7.out), Hw7⟩
          case round =>
            clear Ho7 Hor7 Hw7
            obtain ⟨q, Q, O2, oc2, oh2, hq, rfl, rfl, HQ, Ho2, Hor2, Hwq⟩ := hrel
            have hzq := Hwq.out.size
            by_cases hlq : q < m
            · obtain ⟨x2, E, d, hx3, hxm, hxc, hxd, hxd9, hxr, hxok⟩ := row_ahead HRa.out Hda.out hlq (show m ≤ ra.length - i by rw [Hn.out]; exact hm1)
              rw [← HXS.out] at hx3
              have Hsn := Lib.hid (allPairs_snoc YS hx3)
              have hxl := Hla.out x2 hxm
              have Hxc := Lib.hid hxc
              have cx := cell_keep Hwq.out hxc
              have HQ1 : Q + m' ≤ T := by
                rw [HQ.out, HT.out, ← Nat.succ_mul]
                exact Nat.mul_le_mul_right _ hlq
              generalize hx2n : x2.length = xn at *
              have Hx2n := Lib.hid hx2n
              have Hxr := Lib.hid hxr
              have Hxok := Lib.hid hxok
              clear hx2n hxr hxok hx3 hxm hxc
              go_wp2_with fail
              go_loopw [10, 81] (fun vo vi wp => ∃ (p : Nat) (O3 : Option Addr) (oc3 : Nat) (oh3 : List Value), p ≤ m' ∧ vi = .int .i64 p ∧ vo = .slice O3 (L + Q + p) oc3 ∧ Hid (Own wp w.heap.size 28 1 O3 (L + Q + p) oc3 oh3) ∧ Hid (RowsO wp w.heap.size oh3 (os ++ allPairs (XS.take q) YS ++ (YS.take p).map (x2 ++ ·))) ∧ Hid (Below w.heap.size w wp)) (fun _ vi _ => m' - (intOf vi).toNat)
              case atStart => exact ⟨0, O2, oc2, oh2, by omega, rfl, rfl, Ho2, (by show RowsO _ _ _ _; rw [List.take_zero, List.map_nil, List.append_nil]; exact Hor2.out), Hwq⟩
              case round =>
                clear Ho2 Hor2 Hwq cx
                obtain ⟨p, O3, oc3, oh3, hp, rfl, rfl, Ho3, Hor3, Hwp⟩ := hrel
                have hzp := Hwp.out.size
                by_cases hlp : p < m'
                · obtain ⟨y2, F, f, hy3, hym, hyc, hyd, hyd9, hyr, hyok⟩ := row_ahead HRb.out Hdb.out hlp (show m' ≤ rb.length - k by rw [Hn'.out]; exact hm1')
                  rw [← HYS.out] at hy3
                  have Htk := Lib.hid (take_snoc hy3)
                  have hyl := Hlb.out y2 hym
                  have cy := cell_keep Hwp.out hyc
                  generalize hy2n : y2.length = yn at *
                  have Hy2n := Lib.hid hy2n
                  have Hyok := Lib.hid hyok
                  have Hbo := Lib.hid (both_any x2 y2 xn d yn f E F _ Hx2n.out hy2n (Hxr.out.below Hwp.out) (hyr.below Hwp.out) ⟨hxd, hxd9⟩ ⟨hyd, hyd9⟩ Hxok.out hyok (by omega))
                  clear hy2n hyr hyok hy3 hym hyc
                  go_wp2_with fail
                  refine Hbo.out.mono ?_
                  rintro e w8 ⟨A8, c8, rfl, ho8, hb8⟩
                  have hz8 := hb8.size
                  have hbW : Below w8.heap.size w8 (w8.alloc (.cells #[.slice A8 (xn + yn) c8] 28)) := (Below.refl _ _).alloc (Nat.le_refl _) _
                  have hnew := (Blk.new w8 28 #[.slice A8 (xn + yn) c8]).range
                  have ho9 := Own.below (Own.below Ho3.out hb8) hbW
                  have hor9 := (Hor3.out.below hb8).below hbW
                  have hrow9 := Own.base (Own.below ho8 hbW) hzp
                  have hb9 := (Hwp.out.trans (hb8.mono hzp)).trans (hbW.mono (by omega))
                  clear Hbo ho8 hb8 hbW Ho3 Hor3 Hwp
                  go_wp2_with (first | (at_builtin; refine hold ?_) | (at_make; refine hold ?_))
                  (with_reducible refine unhold ?_)
                  refine wpList_apd rfl _ _ _ rfl Erow w.heap.size _ (L + Q + p) _ oh3 rfl ho9 _ 1 _ [.slice A8 (xn + yn) c8] rfl rfl (fun _ => ⟨_, _, rfl, hnew⟩) (by simp [Value.oneCell']) (L + Q + (p + 1)) (by omega) (oh3 ++ [.slice A8 (xn + yn) c8]) rfl (by omega) (by omega) (by rw [World.size_alloc]; omega) ?_
                  intro A5 c5 w9 ho10 hg10 _
                  have hk10 := ho9.apd_keeps hg10
                  have Hb10 := Lib.hid (hb9.grown hg10 hb9.size ho9.row_ge)
                  have hlen : (x2 ++ y2).length = xn + yn := by rw [List.length_append, Hx2n.out, Hy2n.out]
                  have hor10 := (hor9.keeps (by decide) hk10).snoc (r := x2 ++ y2) (A := A8) (c := c8) (by rw [hlen]; exact Own.keeps hrow9 (by decide) hk10) (fun v hv => (List.mem_append.1 hv).elim (Hxok.out v) (Hyok.out v))
                  rw [hlen] at hor10
                  have Hor10 := Lib.hid hor10
                  have Ho10 := Lib.hid ho10
                  clear hor10 hlen hk10 hb9 hor9 hrow9 ho9 hnew hg10 ho10
                  go_wp2_with fail
                  go_roundw
                  case rel =>
                    refine ⟨p + 1, A5, c5, _, by omega, by go_num, rfl, Ho10, ?_, Hb10⟩
                    show RowsO _ _ _ _
                    rw [Htk.out, List.map_append, ← List.append_assoc]
                    exact Hor10.out
                  case measure => simp [intOf]; omega
                · have hpe : p = m' := by omega
                  have hor11 := Hor3.out
                  rw [show YS.take p = YS from List.take_of_length_le (by rw [HYl.out]; omega), List.append_assoc, ← Hsn.out] at hor11
                  have Hor11 := Lib.hid hor11
                  have HQ2 : Hid (Q + p = (q + 1) * m') := by show _ = _; rw [hpe, HQ.out, Nat.succ_mul]
                  clear hor11
                  go_wp2_with fail
                  go_roundw
                  case rel => exact ⟨q + 1, Q + p, O3, oc3, oh3, by omega, by go_num, (by rw [Nat.add_assoc]), HQ2, (by rw [← Nat.add_assoc]; exact Ho3), Hor11, Hwp⟩
                  case measure => simp [intOf]; omega
            · have hqe : q = m := by omega
              have hor12 := Hor2.out
              rw [List.take_of_length_le (by rw [HXl.out]; omega)] at hor12
              have Hor12 := Lib.hid hor12
              clear hor12
              go_wp2_with fail
              go_quiet (fail)
              go_wp2_with fail
              exact ⟨⟨i + m, k + m', L + Q, oc2, ca - m, cb - m', if ca = m then some ⟨ba, oa, none⟩ else some ⟨ba, oa + m, none⟩, if cb = m' then some ⟨bb, ob, none⟩ else some ⟨bb, ob + m', none⟩, O2, oh2, os ++ allPairs XS YS, by omega, by omega, by rw [Nat.sub_sub], by rw [Nat.sub_sub], rfl, by omega, by omega, by omega, by omega, (by show _ = _; rw [List.length_append, allPairs_len, HXl.out, HYl.out, HL.out, HQ.out, hqe]), (by show _ = _; rw [List.append_assoc, ← Heq2.out]; exact Heq.out), Hda.out.ahead Hla2.out hca, Hdb.out.ahead Hlb2.out hcb, Own.below Ho2.out (below_drewN' (Below.refl _ _) _), Hor12.out.below (below_drewN' (Below.refl _ _) _), below_drewN' Hwq.out _⟩, by dsimp only [lenV]; omega⟩
    · have hne : nested (ra.drop i) (rb.drop k) l r = [] := by
        by_cases hin : i < n
        · rw [List.drop_eq_nil_of_le (show rb.length ≤ k by rw [Hn'.out]; omega)]
          exact nested_nil_right _ _ _
        · rw [List.drop_eq_nil_of_le (show ra.length ≤ i by rw [Hn.out]; omega)]
          rfl
      have heq := Heq.out
      rw [hne, List.append_nil] at heq
      have Heq3 := Lib.hid heq
      clear heq hne
      by_cases hin : i < n
      · have hkn : n' ≤ k := by omega
        go_wp2_with fail
        go_ret2
        rw [← Heq3.out]
        exact ⟨O, L, oc, oh, rfl, HL.out, Ho.out, Hor.out, Hbw.out⟩
      · go_wp2_with fail
        go_ret2
        rw [← Heq3.out]
        exact ⟨O, L, oc, oh, rfl, HL.out, Ho.out, Hor.out, Hbw.out⟩
end Go.Proofs.Ytghaffafglfdlaa
