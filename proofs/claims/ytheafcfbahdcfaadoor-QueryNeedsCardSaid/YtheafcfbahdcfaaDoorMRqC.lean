/- Walks: why a query may not be asked, and the kinds of what it tells: the reference's. (Printed by gen_rqc.py.) -/
import Derived.Test.YtheafcfbahdcfaaDoorMGrK
import Derived.Test.YtheafcfbahdcfaaDoorMGrL
import Derived.Test.YtheafcfbahdcfaaDoorMGrM
import Derived.Test.YtheafcfbahdcfaaDoorMQyX
import Derived.Test.YtheafcfbahdcfaaDoorMGrQ
namespace Go.Proofs.YtheafcfbahdcfaaDoor
set_option linter.unusedVariables false
set_option linter.unusedSimpArgs false
open Go.RowKit

attribute [local go_sem ↓] Go.wp_at_zero Go.wp_at_succ

set_option maxHeartbeats 16000000 in
set_option maxRecDepth 100000 in
theorem rcheck_any (l : List Th) (L : Option Addr) (n c : Nat) (q : Qy) (a1 : Option Addr) (n1 c1 : Nat) (a2 : Option Addr) (n2 c2 : Nat) (a3 : Option Addr) (n3 c3 : Nat) (a4 : Option Addr) (n4 c4 : Nat) (a5 : Option Addr) (n5 c5 : Nat) (a6 : Option Addr) (n6 c6 : Nat) (w : World) (hl : l.length = n) (hL : Tin w L l) (hf : FewT (l.map Th.t)) (hq : Qi w q a1 n1 a2 n2 a3 n3 a4 n4 a5 n5 a6 n6) (hqf : q.Few) (hc3 : n3 ≤ c3 ∧ c3 ≤ maxLen) (hT : Lib.Utf8Tabs 0 1 w) :
    Calls Tryd.prog 12 #[.slice L n c, .agg #[.string (St8 q.frm), .slice a1 n1 c1, .slice a2 n2 c2, .slice a3 n3 c3, .slice a4 n4 c4, .slice a5 n5 c5, .slice a6 n6 c6]] w fun e w' => (∃ A d, e = .returned (.tuple #[.slice A (checkM (l.map Th.t) q).1.length d, .int .i64 (checkM (l.map Th.t) q).2]) ∧ Own w' w.heap.size 5 1 A (checkM (l.map Th.t) q).1.length d (kcells (checkM (l.map Th.t) q).1)) ∧ Below w.heap.size w w' := by
  obtain ⟨lt, hlt⟩ : ∃ lt, lt = l.map Th.t := ⟨_, rfl⟩
  have Hjd := Lib.hid (fun w' (hw : Below w.heap.size w w') => rjoined_any l L n c q a1 n1 c1 a2 n2 c2 a3 n3 c3 a4 n4 c4 a5 n5 c5 a6 n6 c6 w' hl (hL.below hw) hf (hq.below hw) hqf)
  have Hkd := Lib.hid (fun w' (hw : Below w.heap.size w w') => rkinds_any l L n c q a1 n1 c1 a2 n2 c2 a3 n3 c3 a4 n4 c4 a5 n5 c5 a6 n6 c6 w' hl (hL.below hw) hf (hq.below hw) hqf)
  rw [← hlt] at Hjd Hkd hf ⊢
  obtain ⟨P, hP⟩ : ∃ P, P = joinedP lt q := ⟨_, rfl⟩
  obtain ⟨E, hE⟩ : ∃ E, E = joinedE lt q := ⟨_, rfl⟩
  obtain ⟨ks, hks⟩ : ∃ ks, ks = ktabs lt q := ⟨_, rfl⟩
  have hksP : ks = P.map (tabK lt) := by rw [hks, hP]; rfl
  rw [← hP, ← hE, ← hksP] at Hjd
  rw [← hks, ← hE] at Hkd
  obtain ⟨R, hR⟩ : ∃ R, R = checkM lt q := ⟨_, rfl⟩
  rw [← hR]
  have hklP : ks.length = P.length := by rw [hksP, List.length_map]
  have hpn : P.length ≤ q.joins.length + 1 := by rw [hP]; exact joinedP_le lt q
  have hkfl : ks.flatten.length ≤ 160 := by
    have h1 := tabs_le hf.kinds P
    rw [← hksP] at h1
    have h2 := hqf.joins
    omega
  have HRa : Hid (¬ E = 0 → R = ([], E)) := Lib.hid fun h => by
    rw [hR]; unfold checkM
    rw [← hE, if_pos h]
  have Hkl : Hid (E = 0 → ks.length = n1 + 1) := Lib.hid fun h => by
    rw [hklP, hP, joinedP_len (by rw [← hE]; exact h), hq.l1]
  have HRb : Hid (E = 0 → R = checkK ks q) := Lib.hid fun h => by
    rw [hR]; unfold checkM
    rw [← hE, if_neg (fun h2 => h2 h), hks]
  obtain ⟨kn, hkn⟩ : ∃ kn, ks.flatten.length = kn := ⟨_, rfl⟩
  obtain ⟨pn, hpl⟩ : ∃ pn, P.length = pn := ⟨_, rfl⟩
  rw [hkn] at Hkd hkfl
  rw [hpl] at Hjd hklP
  have Hsh := Lib.hid (fun (h : ks.length = n1 + 1) F fc N nc w' (hw : Below w.heap.size w w') (hF : Rd w' F (icl (ints (offs 0 ks)))) (hN : Rd w' N (icl (ints (endsL ks)))) hgd => rshape_any ks F pn fc N nc q a1 n1 c1 a2 n2 c2 a3 n3 c3 a4 n4 c4 a5 n5 c5 a6 n6 c6 w' h hklP hF hN (hq.below hw) hqf hgd)
  have Har := Lib.hid (fun K kc w' (hw : Below w.heap.size w w') (hK : Rd w' K (kcells ks.flatten)) => rright_c ks.flatten K kn kc q.asked a2 n2 c2 w' hK hkn (fun x hx => by have := hqf.texts x hx; omega) hq.l2 (hq.below hw).r2 (by have := hqf.asked; rw [hq.l2] at this; omega) (Utf8Tabs_below hT hw))
  have Htd := Lib.hid (fun K kc w' (hw : Below w.heap.size w w') (hK : Rd w' K (kcells ks.flatten)) => rtold_any ks.flatten K kn kc q a1 n1 c1 a2 n2 c2 a3 n3 c3 a4 n4 c4 a5 n5 c5 a6 n6 c6 w' hkn hK (by omega) (hq.below hw) hqf hc3)
  obtain ⟨J, hJ⟩ : ∃ J, J = joinsM ks q := ⟨_, rfl⟩
  obtain ⟨G, hG⟩ : ∃ G, G = toldM ks.flatten q := ⟨_, rfl⟩
  have hgl : G.1.length ≤ 40 := by
    rw [hG]
    have h1 := toldM_len ks.flatten q
    have h2 := hqf.by_
    have h3 := hqf.aggs
    have h4 := hqf.want
    omega
  obtain ⟨O, hO⟩ : ∃ O, O = orderE G.1.length q.keys := ⟨_, rfl⟩
  have Hor := Lib.hid (fun w' (hw : Below w.heap.size w w') => roright_any G.1.length q.keys a6 n6 c6 w' hq.l6 (hq.below hw).r6 (by omega) (by have := hqf.keys; rw [hq.l6] at this; omega))
  have HJb := Lib.hid (fun (h : ks.length = q.joins.length + 1) j hj h1 h2 => hJ.trans (joins_bad h j hj h1 h2))
  have HJt := Lib.hid (fun (h : ks.length = q.joins.length + 1) j hj h1 h2 h3 => hJ.trans (joins_typ h j hj h1 h2 h3))
  have HJg := Lib.hid (fun (h : ks.length = q.joins.length + 1) h1 => hJ.trans (joins_good h h1))
  have Hq := Lib.hid hq
  have HL := Lib.hid hL
  have Hf := Lib.hid hf
  have Hl := Lib.hid hl
  have Hlt := Lib.hid hlt
  have HPl := Lib.hid hpl
  have HklP := Lib.hid hklP
  have Hkn := Lib.hid hkn
  have hn1 := hqf.joins
  rw [hq.l1] at hn1
  have hn12 := hf.len
  rw [hlt, List.length_map, hl] at hn12
  have HPk : Hid (∀ k ∈ P, k < l.length) := Lib.hid fun k hk => by
    rw [hP] at hk
    have := joinedP_lt hk
    rwa [hlt, List.length_map] at this
  rw [← hG] at Htd
  rw [← hO] at Hor
  have HRc : Hid (R = checkK ks q → ¬ J = 0 → R = ([], J)) := Lib.hid fun h h2 => by
    rw [h]; unfold checkK
    rw [← hJ, if_pos h2]
  have HRd : Hid (R = checkK ks q → J = 0 → ¬ rightN ks.flatten q.asked = true → R = ([], 140)) := Lib.hid fun h h2 h3 => by
    rw [h]; unfold checkK
    rw [← hJ, if_neg (fun h9 => h9 h2), if_pos (Bool.eq_false_iff.2 h3)]
  have HRe : Hid (R = checkK ks q → J = 0 → rightN ks.flatten q.asked = true → ¬ G.2 = 0 → R = ([], G.2)) := Lib.hid fun h h2 h3 h4 => by
    rw [h]; unfold checkK
    rw [← hJ, ← hG, if_neg (fun h9 => h9 h2), if_neg (by rw [h3]; decide), if_pos h4]
  have HRf : Hid (R = checkK ks q → J = 0 → rightN ks.flatten q.asked = true → G.2 = 0 → ¬ O = 0 → R = ([], O)) := Lib.hid fun h h2 h3 h4 h5 => by
    rw [h]; unfold checkK
    rw [← hJ, ← hG, ← hO, if_neg (fun h9 => h9 h2), if_neg (by rw [h3]; decide), if_neg (fun h9 => h9 h4), if_pos h5]
  have HRg : Hid (R = checkK ks q → J = 0 → rightN ks.flatten q.asked = true → G.2 = 0 → O = 0 → R = (G.1, 0)) := Lib.hid fun h h2 h3 h4 h5 => by
    rw [h]; unfold checkK
    rw [← hJ, ← hG, ← hO, if_neg (fun h9 => h9 h2), if_neg (by rw [h3]; decide), if_neg (fun h9 => h9 h4), if_neg (fun h9 => h9 h5)]
  obtain ⟨wb, hwb⟩ : ∃ x, x = w.alloc (.cells #[.string (St8 q.frm), .slice a1 n1 c1, .slice a2 n2 c2, .slice a3 n3 c3, .slice a4 n4 c4, .slice a5 n5 c5, .slice a6 n6 c6] 29) := ⟨_, rfl⟩
  have Hbb : Hid (Below w.heap.size w wb) := by
    show Below _ _ _
    rw [hwb]
    exact (Below.refl _ _).alloc (Nat.le_refl _) _
  have hbx : Blk wb w.heap.size 29 (#[.string (St8 q.frm), .slice a1 n1 c1, .slice a2 n2 c2, .slice a3 n3 c3, .slice a4 n4 c4, .slice a5 n5 c5, .slice a6 n6 c6]).toList := by
    rw [hwb]
    exact Blk.new w _ _
  have Hce := Lib.hid (fun w' (hw : Below wb.heap.size wb w') => (⟨(hbx.below hw).cell 0, (hbx.below hw).cell 1, (hbx.below hw).cell 2, (hbx.below hw).cell 3, (hbx.below hw).cell 4, (hbx.below hw).cell 5, (hbx.below hw).cell 6⟩ : w'.cell? ⟨w.heap.size, 0, none⟩ = some (.string (St8 q.frm)) ∧ w'.cell? ⟨w.heap.size, 1, none⟩ = some (.slice a1 n1 c1) ∧ w'.cell? ⟨w.heap.size, 2, none⟩ = some (.slice a2 n2 c2) ∧ w'.cell? ⟨w.heap.size, 3, none⟩ = some (.slice a3 n3 c3) ∧ w'.cell? ⟨w.heap.size, 4, none⟩ = some (.slice a4 n4 c4) ∧ w'.cell? ⟨w.heap.size, 5, none⟩ = some (.slice a5 n5 c5) ∧ w'.cell? ⟨w.heap.size, 6, none⟩ = some (.slice a6 n6 c6)))
  have HksP := Lib.hid hksP
  have hpm : pn ≤ 200 := by
    have h2 := hqf.joins
    omega
  clear hlt hl hL hf hq hqf hP hE hks hksP hR hklP hpn hkn hpl hJ hG hO hbx hc3 hT
  go_enter Tryd.func12, Tryd.ntmps12
  go_wp2_with fail
  rw [← hwb]
  refine (Hjd.out wb Hbb.out).mono ?_
  rintro e w1 ⟨⟨A, F, d, fc, rfl, hoA, hoF⟩, hb1⟩
  have HoA := Lib.hid hoA.rd
  have Hw1 := Lib.hid hb1
  have Hb1 := Lib.hid (Hbb.out.trans (hb1.mono Hbb.out.size))
  have HoF := Lib.hid hoF
  clear Hjd hb1 hwb hoF hoA
  by_cases hE : E = 0
  · have Hk1 := Lib.hid (Hkl.out hE)
    have HR1 := Lib.hid (HRb.out hE)
    subst hE
    clear Hkl HRb HRa
    obtain ⟨k0, k1, k2, k3, k4, k5, k6⟩ := Hce.out w1 Hw1.out
    go_wp2_with fail
    refine (Hkd.out w1 Hb1.out).mono ?_
    rintro e w2 ⟨⟨K, kc, rfl, hoK⟩, hb2⟩
    have Hw2 := Lib.hid (Hw1.out.trans (hb2.mono Hw1.out.size))
    have Hb2 := Lib.hid (Hb1.out.trans (hb2.mono Hb1.out.size))
    have HoF2 := Lib.hid (HoF.out.rd.below hb2)
    have HoA2 := Lib.hid (HoA.out.below hb2)
    have HoK := Lib.hid hoK
    clear Hkd hb2 hoK k0 k1 k2 k3 k4 k5 k6
    obtain ⟨k0, k1, k2, k3, k4, k5, k6⟩ := Hce.out w2 Hw2.out
    have hkq : ks.length = q.joins.length + 1 := by rw [Hk1.out, Hq.out.l1]
    have hpn1 : pn = n1 + 1 := by rw [← HklP.out]; exact Hk1.out
    have Hkq := Lib.hid hkq
    have Hpn1 := Lib.hid hpn1
    clear hkq HoF HoA Hb1 Hw1 hpn1
    go_wp2_with fail
    go_loopw [11, 12] (fun vn vi wr => ∃ (j : Nat) (X : Option Addr) (xd : Nat), vn = .slice X j xd ∧ vi = .int .i64 j ∧ j ≤ pn ∧ Hid (Own wr w2.heap.size 3 1 X j xd (icl (ints ((endsL ks).take j)))) ∧ Hid (Below w2.heap.size w2 wr)) (fun _ vi _ => pn - (intOf vi).toNat)
    case atStart => exact ⟨0, none, 0, rfl, rfl, by omega, Own.nil _ _ _ _, Below.refl _ _⟩
    case round =>
      obtain ⟨j, X, xd, rfl, rfl, hj, HoX, Hbx⟩ := hrel
      have HBx := Lib.hid (Hb2.out.trans (Hbx.out.mono Hb2.out.size))
      by_cases hjn : j < pn
      · have hjI : (j : Int) < (pn : Int) := by omega
        have hjI0 : (0 : Int) ≤ (j : Int) := by omega
        have hjP : j < P.length := by rw [HPl.out]; exact hjn
        have hjk : j < ks.length := by rw [HklP.out]; exact hjn
        obtain ⟨b, o, hAe, d0⟩ := (HoA2.out.below Hbx.out).num (j := j) (by rw [ints_len]; exact hjP)
        have hKe : (ints P)[j]'(by rw [ints_len]; exact hjP) = ((P[j] : Nat) : Int) := by unfold ints; rw [List.getElem_map]
        rw [hKe] at d0
        obtain ⟨b2, o2, hFe, d1⟩ := (HoF2.out.below Hbx.out).nat (offs_get ks 0 j hjk)
        rw [Nat.zero_add] at d1
        change wr.cell? _ = some (.int .i64 ((preL ks j : Nat) : Int)) at d1
        have hKl := HPk.out _ (List.getElem_mem hjP)
        have hkj : ks[j] = tabK lt P[j] := by
          have h9 : ks[j]? = some (tabK lt P[j]) := by rw [HksP.out, List.getElem?_map, List.getElem?_eq_getElem hjP]; rfl
          rw [List.getElem?_eq_getElem hjk] at h9
          exact Option.some.inj h9
        have hsu := preL_succ hjk
        have hpl := preL_le ks (j + 1)
        rw [Hkn.out] at hpl
        have htk : (endsL ks).take (j + 1) = (endsL ks).take j ++ [preL ks (j + 1)] := take_nodup (endsL_get ks j hjk)
        have Htk := Lib.hid htk
        have hKn : P[j] < n := by rw [← Hl.out]; exact hKl
        obtain ⟨b3, o3, hLe, e0, e1⟩ := (HL.out.below HBx.out).rd.table hKl
        have hmk : (l[P[j]]).t.kinds.length = (ks[j]).length := by rw [hkj, Hlt.out, tabK_at hKl]
        rw [hmk] at e1
        subst hAe hFe hLe
        clear htk hKe hkj hmk HPk e0
        generalize P[j] = KK at *
        have hKI : (KK : Int) < (n : Int) := by omega
        have hKI0 : (0 : Int) ≤ (KK : Int) := by omega
        generalize (l[KK]).a = ka at *
        generalize (l[KK]).c = kc9 at *
        generalize (ks[j]).length = mk at *
        generalize preL ks (j + 1) = p1 at *
        generalize preL ks j = p0 at *
        have hbW : Below wr.heap.size wr (wr.alloc (.cells #[.int .i64 ((p0 : Int) + (mk : Int))] 3)).drew := by go_grown
        have hoW := HoX.out.below hbW
        have hbW2 := Hbx.out.trans (hbW.mono Hbx.out.size)
        have hszW := hbW2.size
        have hnW := (Blk.new wr 3 #[.int .i64 ((p0 : Int) + (mk : Int))]).range
        have hd0 := cell_keep hbW d0
        have hd1 := cell_keep hbW d1
        have he1 := cell_keep hbW e1
        have Hys : Hid (icl (ints ((endsL ks).take j)) ++ [.int .i64 ((p0 : Int) + (mk : Int))] = icl (ints ((endsL ks).take (j + 1)))) := by
          show _ = _
          rw [Htk.out, ints_snoc, icl_append, hsu]
          rfl
        have hwr : IntKind.i64.wrap ((p0 : Int) + (mk : Int)) = (p0 : Int) + (mk : Int) := by rw [IntKind.wrap_i64]; omega
        clear hsu Htk k0 k1 k2 k3 k4 k5 k6
        go_wp2_with fail
        go_region_law (refine step_apd rfl (.tmp 38) (.tmp 53) 25 rfl Eint' w2.heap.size X j xd (icl (ints ((endsL ks).take j))) (by simp [Act.eval, Act.put]) hoW (some ⟨wr.heap.size, 0, none⟩) 1 1 [.int .i64 ((p0 : Int) + (mk : Int))] (by simp [Act.eval, Act.put]) rfl (fun _ => ⟨_, _, rfl, hnW⟩) (by simp [Value.oneCell']) (j + 1) rfl (icl (ints ((endsL ks).take (j + 1)))) Hys.out (by omega) (by omega) hszW ?_; intro A4 d4 w4 ho4 hg4 _)
        all_goals
          have Hb4 := Lib.hid (hbW2.grown hg4 hszW hoW.row_ge)
          have Ho4 := Lib.hid ho4
          clear ho4 hg4 hoW hbW2 hbW hnW hszW hd0 hd1 he1 d0 d1 e1
          go_wp2_with fail
          go_roundw
          case rel => exact ⟨j + 1, A4, d4, rfl, by go_num, by omega, Ho4, Hb4⟩
          case measure => simp [intOf]; omega
      · obtain rfl : j = pn := by omega
        have hxt : (endsL ks).take j = endsL ks := List.take_of_length_le (by rw [endsL_len ks (by rw [Hk1.out]; omega), HklP.out]; exact Nat.le_refl _)
        have hxo := HoX.out.rd
        rw [hxt] at hxo
        have HX := Lib.hid hxo
        have hjI : ¬ (j : Int) < (j : Int) := by omega
        have Hw3 := Lib.hid (Hw2.out.trans (Hbx.out.mono Hw2.out.size))
        have HK3 := Lib.hid (HoK.out.rd.below Hbx.out)
        have HF3 := Lib.hid (HoF2.out.below Hbx.out)
        clear hxt hxo HoX k0 k1 k2 k3 k4 k5 k6 Hbx HoA2 HoF2 HoK
        generalize wr = w3 at *
        go_wp2_with fail
        go_loopw [13] (fun vi wr => ∃ i : Nat, vi = .int .i64 i ∧ i ≤ n1 ∧ Hid (∀ p (hp : p < q.joins.length), p < i → ¬ jBad ks p q.joins[p] ∧ ¬ jTyp ks p q.joins[p]) ∧ Hid (Below w3.heap.size w3 wr)) (fun vi _ => n1 - (intOf vi).toNat)
        case atStart => exact ⟨0, rfl, by omega, (fun p _ h => by omega), Below.refl _ _⟩
        case round =>
          obtain ⟨i, rfl, hi, Hal, Hb3⟩ := hrel
          have HB3 := Lib.hid (HBx.out.trans (Hb3.out.mono HBx.out.size))
          have HW3 := Lib.hid (Hw3.out.trans (Hb3.out.mono Hw3.out.size))
          obtain ⟨k0, k1, k2, k3, k4, k5, k6⟩ := Hce.out wr HW3.out
          by_cases hin : i < n1
          · clear k0 k3 k4 k5
            have hiI : (i : Int) < (n1 : Int) := by omega
            have hiI0 : (0 : Int) ≤ (i : Int) := by omega
            have hil : i < q.joins.length := by rw [Hq.out.l1]; exact hin
            have hik : i < ks.length := by rw [Hk1.out]; omega
            have hik1 : i + 1 < ks.length := by rw [Hk1.out]; omega
            have hiP : (i : Int) < (j : Int) := by have := Hpn1.out; omega
            have hiP1 : (i : Int) + 1 < (j : Int) := by have := Hpn1.out; omega
            have hi10 : (0 : Int) ≤ (i : Int) + 1 := by omega
            have hwi : IntKind.i64.wrap ((i : Int) + 1) = (i : Int) + 1 := by rw [IntKind.wrap_i64]; omega
            obtain ⟨b, o, hae, c0, c1', c2'⟩ := (Hq.out.below HB3.out).r1.jn hil
            obtain ⟨b2, o2, hXe, d1⟩ := (HX.out.below Hb3.out).nat (endsL_get ks i hik)
            obtain ⟨b3, o3, hXe2, d2⟩ := (HX.out.below Hb3.out).nat (endsL_get ks (i + 1) hik1)
            obtain ⟨b4, o4, hFe, f1⟩ := (HF3.out.below Hb3.out).nat (offs_get ks 0 (i + 1) hik1)
            rw [Nat.zero_add] at f1
            change wr.cell? _ = some (.int .i64 ((preL ks (i + 1) : Nat) : Int)) at f1
            obtain ⟨rfl, rfl⟩ : b3 = b2 ∧ o3 = o2 := by rw [hXe] at hXe2; cases hXe2; exact ⟨rfl, rfl⟩
            have HJB := Lib.hid (HJb.out Hkq.out i hil Hal.out)
            have HJT := Lib.hid (HJt.out Hkq.out i hil Hal.out)
            have hok : ¬ jBad ks i q.joins[i] → ¬ jTyp ks i q.joins[i] → ∀ p (hp : p < q.joins.length), p < i + 1 → ¬ jBad ks p q.joins[p] ∧ ¬ jTyp ks p q.joins[p] := fun h1 h2 p hp hpi => by
              by_cases e : p = i
              · subst e; exact ⟨h1, h2⟩
              · exact Hal.out p hp (by omega)
            have HOK := Lib.hid hok
            have hp12 := preL_le ks (i + 1)
            have hp22 := preL_le ks (i + 2)
            have hps := preL_succ hik1
            rw [Hkn.out] at hp12 hp22
            have HKK := Lib.hid (fun z (hz : z < ks.flatten.length) => (HK3.out.below Hb3.out).kind hz)
            subst hae hXe hFe
            clear hXe2 hok
            generalize hxx : q.joins[i] = xx at *
            clear hxx
            obtain ⟨tn, x, y⟩ := xx
            dsimp only at c0 c1' c2'
            have hjb : jBad ks i ⟨tn, x, y⟩ = (x < 0 ∨ (preL ks (i + 1) : Int) ≤ x ∨ y < 0 ∨ (preL ks (i + 2) : Int) - (preL ks (i + 1) : Int) ≤ y) := rfl
            have hjt : jTyp ks i ⟨tn, x, y⟩ = (ks.flatten.getD x.toNat 0 ≠ ks.flatten.getD (preL ks (i + 1) + y.toNat) 0) := rfl
            rw [hjb] at HJB HJT HOK
            rw [hjt] at HJT HOK
            clear hjb hjt
            change wr.cell? _ = some (.int .i64 ((preL ks (i + 2) : Nat) : Int)) at d2
            generalize preL ks (i + 1) = p1 at *
            generalize preL ks (i + 2) = p2 at *
            generalize preL ks (i + 1 + 1) = p2' at *
            have hws : IntKind.i64.wrap ((p2 : Int) - (p1 : Int)) = (p2 : Int) - (p1 : Int) := by rw [IntKind.wrap_i64]; omega
            have hws2 : wrap64 ((p2 : Int) - (p1 : Int)) = (p2 : Int) - (p1 : Int) := by unfold wrap64; omega
            have HbA : Hid (Below w.heap.size w (wr.alloc (.cells #[.string (St8 tn), .int .i64 x, .int .i64 y] 46))) := HB3.out.alloc HB3.out.size _
            have hbJ : Below wr.heap.size wr (wr.alloc (.cells #[.string (St8 tn), .int .i64 x, .int .i64 y] 46)) := (Below.refl _ _).alloc (Nat.le_refl _) _
            have hd1 := cell_keep hbJ d1
            have hd2 := cell_keep hbJ d2
            have hf1 := cell_keep hbJ f1
            have hk6 := cell_keep hbJ k6
            have hk2 := cell_keep hbJ k2
            have hk1 := cell_keep hbJ k1
            clear hk6 hk2 hk1 k6 k2 d1 d2 f1 hbJ hps hil hik hik1 hjn hjI
            have hiQ : (i : Int) + 1 = (i : Int) + 1 := rfl
            clear hiQ
            by_cases g1 : x < 0
            · have HJ1 := Lib.hid (HJB.out (.inl g1))
              have HR2 := Lib.hid (HRc.out HR1.out (by rw [HJ1.out]; decide))
              rw [HJ1.out] at HR2
              clear HJB HJT HOK
              go_wp2_with fail
              go_quiet (fail)
              go_wp2_with fail
              go_ret2
              exact ⟨⟨none, 0, by rw [HR2.out]; rfl, by rw [HR2.out]; exact Own.nil _ _ _ _⟩, HbA.out.trans ((drewB5 _ _).mono HbA.out.size)⟩
            · have e1 : decide (x < 0) = false := decide_eq_false g1
              by_cases g2 : (p1 : Int) ≤ x
              · have e2 : decide ((p1 : Int) ≤ x) = true := decide_eq_true g2
                have HJ1 := Lib.hid (HJB.out (.inr (.inl g2)))
                have HR2 := Lib.hid (HRc.out HR1.out (by rw [HJ1.out]; decide))
                rw [HJ1.out] at HR2
                clear HJB HJT HOK
                go_wp2_with fail
                go_quiet (fail)
                go_wp2_with fail
                go_ret2
                exact ⟨⟨none, 0, by rw [HR2.out]; rfl, by rw [HR2.out]; exact Own.nil _ _ _ _⟩, HbA.out.trans ((drewB5 _ _).mono HbA.out.size)⟩
              · have e2 : decide ((p1 : Int) ≤ x) = false := decide_eq_false g2
                by_cases g3 : y < 0
                · have e3 : decide (y < 0) = true := decide_eq_true g3
                  have HJ1 := Lib.hid (HJB.out (.inr (.inr (.inl g3))))
                  have HR2 := Lib.hid (HRc.out HR1.out (by rw [HJ1.out]; decide))
                  rw [HJ1.out] at HR2
                  clear HJB HJT HOK
                  go_wp2_with fail
                  go_quiet (fail)
                  go_wp2_with fail
                  go_ret2
                  exact ⟨⟨none, 0, by rw [HR2.out]; rfl, by rw [HR2.out]; exact Own.nil _ _ _ _⟩, HbA.out.trans ((drewB5 _ _).mono HbA.out.size)⟩
                · have e3 : decide (y < 0) = false := decide_eq_false g3
                  by_cases g4 : (p2 : Int) - (p1 : Int) ≤ y
                  · have e4 : decide ((p2 : Int) - (p1 : Int) ≤ y) = true := decide_eq_true g4
                    have HJ1 := Lib.hid (HJB.out (.inr (.inr (.inr g4))))
                    have HR2 := Lib.hid (HRc.out HR1.out (by rw [HJ1.out]; decide))
                    rw [HJ1.out] at HR2
                    clear HJB HJT HOK
                    go_wp2_with fail
                    go_quiet (fail)
                    go_wp2_with fail
                    go_ret2
                    exact ⟨⟨none, 0, by rw [HR2.out]; rfl, by rw [HR2.out]; exact Own.nil _ _ _ _⟩, HbA.out.trans ((drewB5 _ _).mono HbA.out.size)⟩
                  · have e4 : decide ((p2 : Int) - (p1 : Int) ≤ y) = false := decide_eq_false g4
                    have hnb : ¬ (x < 0 ∨ (p1 : Int) ≤ x ∨ y < 0 ∨ (p2 : Int) - (p1 : Int) ≤ y) := fun h9 => h9.elim g1 (fun h9 => h9.elim g2 (fun h9 => h9.elim g3 g4))
                    obtain ⟨lN, rfl⟩ := Int.eq_ofNat_of_zero_le (show (0 : Int) ≤ x by omega)
                    obtain ⟨rN, rfl⟩ := Int.eq_ofNat_of_zero_le (show (0 : Int) ≤ y by omega)
                    have hlk : lN < ks.flatten.length := by rw [Hkn.out]; clear HJB HJT HOK; omega
                    have hrk : p1 + rN < ks.flatten.length := by rw [Hkn.out]; clear HJB HJT HOK; omega
                    have hb3A : Below w3.heap.size w3 (wr.alloc (.cells #[.string (St8 tn), .int .i64 (lN : Int), .int .i64 (rN : Int)] 46)) := Hb3.out.alloc Hb3.out.size _
                    obtain ⟨rt, hrt⟩ : ∃ rt, rt = p1 + rN := ⟨_, rfl⟩
                    have hw1 : IntKind.i64.wrap ((p1 : Int) + (rN : Int)) = (rt : Int) := by rw [IntKind.wrap_i64, hrt]; omega
                    have hw12 : wrap64 ((p1 : Int) + (rN : Int)) = (rt : Int) := by unfold wrap64; omega
                    obtain ⟨kb, ko, hKe, g0⟩ := (HK3.out.below hb3A).kind hlk
                    rw [← hrt] at hrk
                    obtain ⟨kb1, ko1, hKe1, gg1⟩ := (HK3.out.below hb3A).kind hrk
                    subst hKe
                    obtain ⟨rfl, rfl⟩ : kb = kb1 ∧ ko = ko1 := by
                      have h9 := Option.some.inj hKe1
                      injection h9 with h91 h92
                      exact ⟨h91, h92⟩
                    have HJT2 := Lib.hid (HJT.out hnb)
                    have HOK2 := Lib.hid (HOK.out hnb)
                    rw [Int.toNat_natCast, Int.toNat_natCast, ← hrt, List.getD_eq_getElem?_getD, List.getD_eq_getElem?_getD, List.getElem?_eq_getElem hlk, List.getElem?_eq_getElem hrk, Option.getD_some, Option.getD_some] at HJT2 HOK2
                    have hrkn : rt < kn := by rw [← Hkn.out]; exact hrk
                    have hlkn : lN < kn := by rw [← Hkn.out]; exact hlk
                    generalize ks.flatten[lN] = kl at *
                    generalize ks.flatten[rt] = kr at *
                    have hrI : (rt : Int) < (kn : Int) := Int.ofNat_lt.2 hrkn
                    have hrI0 : (0 : Int) ≤ (rt : Int) := Int.natCast_nonneg _
                    have hlI : (lN : Int) < (kn : Int) := Int.ofNat_lt.2 hlkn
                    have hlI0 : (0 : Int) ≤ (lN : Int) := Int.natCast_nonneg _
                    have h2' : ¬ p1 ≤ lN := fun h9 => g2 (Int.ofNat_le.2 h9)
                    have e2' : decide (p1 ≤ lN) = false := decide_eq_false h2'
                    have Hb3A := Lib.hid hb3A
                    clear hlk hrk hKe1 hrt HJB HJT HOK hnb HKK hb3A g2
                    by_cases hkk : kl = kr
                    · subst hkk
                      have HOK3 := Lib.hid (HOK2.out (fun h9 => h9 rfl))
                      clear HJT2 HOK2
                      go_wp2_with fail
                      go_quiet (fail)
                      go_wp2_with fail
                      go_quiet (fail)
                      go_wp2_with fail
                      go_roundw
                      case rel => exact ⟨i + 1, by go_num, by omega, HOK3, by first | exact Hb3A.out | exact below_drewN' Hb3A.out _ | exact below_drewN' (below_drewN' Hb3A.out _) _⟩
                      case measure => simp [intOf]; omega
                    · have e5 : (kl == kr) = false := by rw [beq_eq_false_iff_ne]; exact hkk
                      have e6 : (kl != kr) = true := by simpa using hkk
                      have HJ1 := Lib.hid (HJT2.out hkk)
                      have HR2 := Lib.hid (HRc.out HR1.out (by rw [HJ1.out]; decide))
                      rw [HJ1.out] at HR2
                      clear HJT2 HOK2 hkk
                      go_wp2_with fail
                      go_quiet (fail)
                      go_wp2_with fail
                      go_quiet (fail)
                      go_wp2_with fail
                      go_ret2
                      exact ⟨⟨none, 0, by rw [HR2.out]; rfl, by rw [HR2.out]; exact Own.nil _ _ _ _⟩, by first | exact HbA.out | exact below_drewN' HbA.out _ | exact below_drewN' (below_drewN' HbA.out _) _⟩
          · obtain rfl : i = n1 := by omega
            have hiI : ¬ (i : Int) < (i : Int) := by omega
            have hall : ∀ p (hp : p < q.joins.length), ¬ jBad ks p q.joins[p] ∧ ¬ jTyp ks p q.joins[p] := fun p hp => Hal.out p hp (by rw [Hq.out.l1] at hp; exact hp)
            have HJ := Lib.hid (HJg.out Hkq.out hall)
            have hsh := Hsh.out Hk1.out F fc X xd wr HB3.out (HF3.out.below Hb3.out) (HX.out.below Hb3.out) (fun p hp => (hall p hp).1)
            rw [Hq.out.l1] at HJ
            clear hall Hal HJg HJb HJt
            obtain ⟨S, hS⟩ : ∃ S, S = (stF ks q.joins i || chF ks q.joins i) := ⟨_, rfl⟩
            rw [← hS] at hsh HJ
            have Hsh2 := Lib.hid hsh
            clear hS hsh Hsh
            generalize wr = w4 at *
            go_wp2_with fail
            refine Hsh2.out.mono ?_
            rintro e w5 ⟨rfl, hb5⟩
            have Hw5 := Lib.hid (HW3.out.trans (hb5.mono HW3.out.size))
            have Hb5 := Lib.hid (HB3.out.trans (hb5.mono HB3.out.size))
            have HK5 := Lib.hid ((HK3.out.below Hb3.out).below hb5)
            clear hb5 Hsh2 k0 k1 k2 k3 k4 k5 k6 Hb3 HB3 HW3 HK3 HF3 HX Hw3 Hw2 Hb2 HBx
            generalize w5 = w3 at *
            have Hw3 := Hw5
            have Hb3 := Hb5
            have HK3 := HK5
            clear Hw5 Hb5 HK5
            cases S
            · have hJ : J = 232 := HJ.out
              have HR2 := Lib.hid (HRc.out HR1.out (by rw [hJ]; decide))
              rw [hJ] at HR2
              clear HRc HRd HRe HRf HRg hJ HJ
              go_wp2_with fail
              go_ret2
              exact ⟨⟨none, 0, by rw [HR2.out]; rfl, by rw [HR2.out]; exact Own.nil _ _ _ _⟩, Hb3.out⟩
            · have hJ : J = 0 := HJ.out
              clear HJ
              have HRd2 := Lib.hid (HRd.out HR1.out hJ)
              have HRe2 := Lib.hid (HRe.out HR1.out hJ)
              have HRf2 := Lib.hid (HRf.out HR1.out hJ)
              have HRg2 := Lib.hid (HRg.out HR1.out hJ)
              subst hJ
              clear HRc HRd HRe HRf HRg
              obtain ⟨k0, k1, k2, k3, k4, k5, k6⟩ := Hce.out w3 Hw3.out
              have har := Har.out K kc w3 Hb3.out HK3.out
              clear Har
              by_cases hrn : rightN ks.flatten q.asked = true
              · rw [if_pos hrn] at har
                have Har2 := Lib.hid har
                have HRe3 := Lib.hid (HRe2.out hrn)
                have HRf3 := Lib.hid (HRf2.out hrn)
                have HRg3 := Lib.hid (HRg2.out hrn)
                clear HRd2 HRe2 HRf2 HRg2 har hrn
                go_wp2_with fail
                refine Har2.out.mono ?_
                rintro e w4 ⟨rfl, hb4⟩
                have Hw4 := Lib.hid (Hw3.out.trans (hb4.mono Hw3.out.size))
                have Hb4 := Lib.hid (Hb3.out.trans (hb4.mono Hb3.out.size))
                have HK4 := Lib.hid (HK3.out.below hb4)
                clear hb4 Har2 k0 k1 k2 k3 k4 k5 k6
                obtain ⟨k0, k1, k2, k3, k4, k5, k6⟩ := Hce.out w4 Hw4.out
                obtain ⟨gl, ge⟩ := G
                dsimp only at Htd Hor HRe3 HRf3 HRg3 hgl
                obtain ⟨gn, hgn⟩ : ∃ gn, gl.length = gn := ⟨_, rfl⟩
                rw [hgn] at Htd Hor hgl
                have Hgn := Lib.hid hgn
                clear hgn
                go_wp2_with fail
                refine (Htd.out K kc w4 Hb4.out HK4.out).mono ?_
                rintro e w5 ⟨⟨B, d5, rfl, hoB⟩, hb5⟩
                have Hw5 := Lib.hid (Hw4.out.trans (hb5.mono Hw4.out.size))
                have Hb5 := Lib.hid (Hb4.out.trans (hb5.mono Hb4.out.size))
                have HoB := Lib.hid hoB
                clear hb5 hoB Htd k0 k1 k2 k3 k4 k5 k6
                by_cases hge : ge = 0
                · have HRf4 := Lib.hid (HRf3.out hge)
                  have HRg4 := Lib.hid (HRg3.out hge)
                  subst hge
                  clear HRe3 HRf3 HRg3
                  obtain ⟨k0, k1, k2, k3, k4, k5, k6⟩ := Hce.out w5 Hw5.out
                  go_wp2_with fail
                  refine (Hor.out w5 Hb5.out).mono ?_
                  rintro e w6 ⟨rfl, hb6⟩
                  have Hb6 := Lib.hid (Hb5.out.trans (hb6.mono Hb5.out.size))
                  have HoB6 := Lib.hid ((HoB.out.below hb6).lower Hb4.out.size)
                  clear hb6 Hor k0 k1 k2 k3 k4 k5 k6
                  by_cases hO : O = 0
                  · have HR2 := Lib.hid (HRg4.out hO)
                    subst hO
                    clear HRf4 HRg4
                    go_wp2_with fail
                    go_ret2
                    exact ⟨⟨B, d5, by rw [HR2.out]; show Ending.returned (.tuple #[.slice B _ d5, _]) = Ending.returned (.tuple #[.slice B gl.length d5, _]); rw [Hgn.out]; rfl, by rw [HR2.out]; show Own _ _ _ _ _ gl.length _ _; rw [Hgn.out]; exact HoB6.out⟩, Hb6.out⟩
                  · have HR2 := Lib.hid (HRf4.out hO)
                    have e1 : (O == 0) = false := by rw [beq_eq_false_iff_ne]; exact hO
                    have e2 : (O != 0) = true := by simpa using hO
                    clear HRf4 HRg4
                    go_wp2_with fail
                    go_ret2
                    exact ⟨⟨none, 0, by rw [HR2.out]; rfl, by rw [HR2.out]; exact Own.nil _ _ _ _⟩, Hb6.out⟩
                · have HR2 := Lib.hid (HRe3.out hge)
                  have e1 : (ge == 0) = false := by rw [beq_eq_false_iff_ne]; exact hge
                  have e2 : (ge != 0) = true := by simpa using hge
                  clear HRe3 HRf3 HRg3
                  go_wp2_with fail
                  go_ret2
                  exact ⟨⟨none, 0, by rw [HR2.out]; rfl, by rw [HR2.out]; exact Own.nil _ _ _ _⟩, Hb5.out⟩
              · rw [if_neg hrn] at har
                have Har2 := Lib.hid har
                have HR2 := Lib.hid (HRd2.out hrn)
                clear HRd2 HRe2 HRf2 HRg2 har hrn
                go_wp2_with fail
                refine Har2.out.mono ?_
                rintro e w4 ⟨rfl, hb4⟩
                have Hb4 := Lib.hid (Hb3.out.trans (hb4.mono Hb3.out.size))
                go_wp2_with fail
                go_ret2
                exact ⟨⟨none, 0, by rw [HR2.out]; rfl, by rw [HR2.out]; exact Own.nil _ _ _ _⟩, Hb4.out⟩
  · have HR2 := Lib.hid (HRa.out hE)
    have e1 : (E == 0) = false := by rw [beq_eq_false_iff_ne]; exact hE
    have e2 : (E != 0) = true := by simpa using hE
    clear HRa HRb HRc HRd HRe HRf HRg
    go_wp2_with fail
    go_ret2
    exact ⟨⟨none, 0, by rw [HR2.out]; rfl, by rw [HR2.out]; exact Own.nil _ _ _ _⟩, Hb1.out⟩
end Go.Proofs.YtheafcfbahdcfaaDoor
