/- Walks: QueryMore. (Printed by gen_qzm.py.) -/
import Derived.Test.YtheafcfbahdcfaaQyE
import Derived.Test.YtheafcfbahdcfaaQyD
import Derived.Test.YtheafcfbahdcfaaQyZ
namespace Go.Proofs.Ytheafcfbahdcfaa
open Go.RowKit

attribute [local go_sem ↓] Go.wp_at_zero Go.wp_at_succ

theorem Etable : ElemT Try.prog 22 45 2 40 (.agg #[.string ⟨#[]⟩, .slice none 0 0]) := ElemT.mk' (by kernel_rfl) (by kernel_rfl) rfl (by omega)
theorem thc_append (r q : List Th) : thc (r ++ q) = thc r ++ thc q := by simp [thc]
theorem thc_one (l : List Th) : ∀ u ∈ thc l, u.oneCell' = true := by
  intro u hu
  unfold thc at hu
  obtain ⟨h, _, hx⟩ := List.mem_flatMap.1 hu
  unfold Th.cells at hx
  rcases List.mem_cons.1 hx with rfl | hx
  · rfl
  · obtain rfl := List.mem_singleton.1 hx
    rfl
theorem Own.lit0 (w : World) (t : TypeId) (size : Nat) : Own (w.alloc (.cells #[] t)) w.heap.size t size (some ⟨w.heap.size, 0, none⟩) 0 0 [] :=
  ⟨by simp, .inr ⟨w.heap.size, 0, #[], rfl, Nat.le_refl _, Blk.new w t #[], Nat.le_refl _, Nat.zero_le _, by simp, by simp⟩⟩
theorem kc_bs : ∀ cl : List Int, (∀ x ∈ cl, kindT x = true) → ∃ T : List UInt8, T.length = cl.length ∧ kcells cl = Bs T
  | [], _ => ⟨[], rfl, rfl⟩
  | x :: cl, h => by
    obtain ⟨T, h1, h2⟩ := kc_bs cl fun y hy => h y (List.mem_cons_of_mem _ hy)
    obtain ⟨g1, g3⟩ := of_decide_eq_true (show decide (1 ≤ x ∧ x ≤ 3) = true from h x List.mem_cons_self)
    refine ⟨UInt8.ofNat x.toNat :: T, by simp [h1], ?_⟩
    show Value.int .u8 x :: kcells cl = Ytheafcfbahdcfaa.B (UInt8.ofNat x.toNat) :: Bs T
    rw [h2]
    congr 1
    unfold Ytheafcfbahdcfaa.B
    congr 1
    have : (UInt8.ofNat x.toNat).toNat = x.toNat := by
      rw [UInt8.toNat_ofNat']
      omega
    rw [this]
    omega
theorem FewT.right {m l : List Tb} (h : FewT (m ++ l)) : FewT l :=
  ⟨by have := h.len; rw [List.length_append] at this; omega, fun t ht => h.names t (List.mem_append_right _ ht), fun t ht => h.kinds t (List.mem_append_right _ ht)⟩

set_option maxHeartbeats 32000000 in
set_option maxRecDepth 100000 in
theorem more_walk (l ml : List Th) (L : Option Addr) (n c : Nat) (M : Option Addr) (mn mc : Nat) (q : Qy) (a1 : Option Addr) (n1 c1 : Nat) (a2 : Option Addr) (n2 c2 : Nat) (a3 : Option Addr) (n3 c3 : Nat) (a4 : Option Addr) (n4 c4 : Nat) (a5 : Option Addr) (n5 c5 : Nat) (a6 : Option Addr) (n6 c6 : Nat) (w : World) (hl : l.length = n) (hL : Tin w L l) (hml : ml.length = mn) (hM : Tin w M ml) (hn : n ≤ 1048576) (hmn : mn ≤ 1048576) (hq : Qi w q a1 n1 a2 n2 a3 n3 a4 n4 a5 n5 a6 n6) (hc3 : n3 ≤ c3 ∧ c3 ≤ maxLen) :
    Calls Try.prog 3 #[.slice L n c, .slice M mn mc, .agg #[.string (St8 q.frm), .slice a1 n1 c1, .slice a2 n2 c2, .slice a3 n3 c3, .slice a4 n4 c4, .slice a5 n5 c5, .slice a6 n6 c6]] w fun e w' => e = .returned (.bool true) ∧ Below w.heap.size w w' := by
  have HL := Lib.hid (fun w' (hw : Below w.heap.size w w') => hL.below hw)
  have HM := Lib.hid (fun w' (hw : Below w.heap.size w w') => hM.below hw)
  obtain ⟨lt, hlt⟩ : ∃ lt, lt = l.map Th.t := ⟨_, rfl⟩
  obtain ⟨mt, hmt⟩ : ∃ mt, mt = ml.map Th.t := ⟨_, rfl⟩
  have hat : (ml ++ l).map Th.t = mt ++ lt := by rw [List.map_append, hlt, hmt]
  obtain ⟨N, hN⟩ : ∃ N, N = mn + n := ⟨_, rfl⟩
  have hal : (ml ++ l).length = N := by rw [List.length_append, hl, hml, hN]
  have Hfw := Lib.hid (fun A d w' (hw : Below w.heap.size w w') (hA : Tin w' A (ml ++ l)) => qfew_any (ml ++ l) A N d q a1 n1 c1 a2 n2 c2 a3 n3 c3 a4 n4 c4 a5 n5 c5 a6 n6 c6 w' hal hA.rd (hq.below hw))
  have Hta := Lib.hid (fun A d w' (hA : Tin w' A (ml ++ l)) (hf : FewT (mt ++ lt)) => tables_any (ml ++ l) A N d w' hal hA (by rw [hat]; exact hf))
  have Htl := Lib.hid (fun w' (hw : Below w.heap.size w w') (hf : FewT (mt ++ lt)) => tables_any l L n c w' hl (hL.below hw) (by rw [← hlt]; exact hf.right))
  have Hcl := Lib.hid (fun w' (hw : Below w.heap.size w w') (hf : FewT (mt ++ lt) ∧ q.Few) => qcheck_any l L n c q a1 n1 c1 a2 n2 c2 a3 n3 c3 a4 n4 c4 a5 n5 c5 a6 n6 c6 w' hl (hL.below hw) (by rw [← hlt]; exact hf.1.right) (hq.below hw) hf.2 hc3)
  have Hca := Lib.hid (fun A d w' (hw : Below w.heap.size w w') (hA : Tin w' A (ml ++ l)) (hf : FewT (mt ++ lt) ∧ q.Few) => qcheck_any (ml ++ l) A N d q a1 n1 c1 a2 n2 c2 a3 n3 c3 a4 n4 c4 a5 n5 c5 a6 n6 c6 w' hal hA (by rw [hat]; exact hf.1) (hq.below hw) hf.2 hc3)
  have Hnl := Lib.hid (fun w' (hw : Below w.heap.size w w') (hf : FewT (mt ++ lt) ∧ q.Few) => needs_any l L n c q a1 n1 c1 a2 n2 c2 a3 n3 c3 a4 n4 c4 a5 n5 c5 a6 n6 c6 w' hl (hL.below hw) (by rw [← hlt]; exact hf.1.right) (hq.below hw) hf.2 hc3)
  have Hna := Lib.hid (fun A d w' (hw : Below w.heap.size w w') (hA : Tin w' A (ml ++ l)) (hf : FewT (mt ++ lt) ∧ q.Few) => needs_any (ml ++ l) A N d q a1 n1 c1 a2 n2 c2 a3 n3 c3 a4 n4 c4 a5 n5 c5 a6 n6 c6 w' hal hA (by rw [hat]; exact hf.1) (hq.below hw) hf.2 hc3)
  rw [← hlt] at Htl Hcl Hnl
  rw [hat] at Hfw Hta Hca Hna
  obtain ⟨C, hC⟩ : ∃ C, C = checkM lt q := ⟨_, rfl⟩
  obtain ⟨D, hD⟩ : ∃ D, D = checkM (mt ++ lt) q := ⟨_, rfl⟩
  obtain ⟨R, hR⟩ : ∃ R, R = needsM lt q := ⟨_, rfl⟩
  obtain ⟨Q, hQ⟩ : ∃ Q, Q = needsM (mt ++ lt) q := ⟨_, rfl⟩
  rw [← hC] at Hcl
  rw [← hD] at Hca
  rw [← hR] at Hnl
  rw [← hQ] at Hna
  have Hmo : Hid (tablesOk (mt ++ lt) = true → C.2 = 0 → D = C ∧ Q = R ∧ R.2 = 0 ∧ R.1.length = q.joins.length + 1 ∧ ∀ x ∈ C.1, kindT x = true) := Lib.hid fun h1 h2 => by
    rw [hC] at h2 ⊢
    obtain ⟨h3, h4⟩ := check_more h1 h2
    exact ⟨by rw [hD, h3], by rw [hQ, hR, h4], by rw [hR, needs_yes h2], by rw [hR]; exact (needs_len h2).1, (check_ok h2).2.2.2⟩
  have Hsm : Hid (FewT (mt ++ lt) → ∀ s ∈ R.1, s.length ≤ 12) := Lib.hid fun h => by
    rw [hR]
    exact needs_small h.right
  have Hml := Lib.hid hml
  have Hll := Lib.hid hl
  have hNb : N ≤ 2097152 := by omega
  have HNN := Lib.hid hN
  obtain ⟨wb, hwb⟩ : ∃ x, x = w.alloc (.cells #[.string (St8 q.frm), .slice a1 n1 c1, .slice a2 n2 c2, .slice a3 n3 c3, .slice a4 n4 c4, .slice a5 n5 c5, .slice a6 n6 c6] 29) := ⟨_, rfl⟩
  have Hbb : Hid (Below w.heap.size w wb) := by
    show Below _ _ _
    rw [hwb]
    exact (Below.refl _ _).alloc (Nat.le_refl _) _
  have hbx : Blk wb w.heap.size 29 (#[.string (St8 q.frm), .slice a1 n1 c1, .slice a2 n2 c2, .slice a3 n3 c3, .slice a4 n4 c4, .slice a5 n5 c5, .slice a6 n6 c6]).toList := by
    rw [hwb]
    exact Blk.new w _ _
  have Hce := Lib.hid (fun w' (hw : Below wb.heap.size wb w') => (⟨(hbx.below hw).cell 0, (hbx.below hw).cell 1, (hbx.below hw).cell 2, (hbx.below hw).cell 3, (hbx.below hw).cell 4, (hbx.below hw).cell 5, (hbx.below hw).cell 6⟩ : w'.cell? ⟨w.heap.size, 0, none⟩ = some (.string (St8 q.frm)) ∧ w'.cell? ⟨w.heap.size, 1, none⟩ = some (.slice a1 n1 c1) ∧ w'.cell? ⟨w.heap.size, 2, none⟩ = some (.slice a2 n2 c2) ∧ w'.cell? ⟨w.heap.size, 3, none⟩ = some (.slice a3 n3 c3) ∧ w'.cell? ⟨w.heap.size, 4, none⟩ = some (.slice a4 n4 c4) ∧ w'.cell? ⟨w.heap.size, 5, none⟩ = some (.slice a5 n5 c5) ∧ w'.cell? ⟨w.heap.size, 6, none⟩ = some (.slice a6 n6 c6)))
  have Hsh := Lib.hid (qshown_any wb)
  clear hL hM hq hc3 hlt hmt hat hal hC hD hR hQ hml hl hN hbx
  go_enter Try.func3, Try.ntmps3
  go_wp2_with fail
  rw [← hwb]
  refine Hsh.out.mono ?_
  rintro e w1 ⟨rfl, hb1⟩
  have Hw1 := Lib.hid hb1
  have Hb1 := Lib.hid (Hbb.out.trans (hb1.mono Hbb.out.size))
  clear hb1 hwb Hsh
  have ho := Own.lit0 w1 45 2
  have hb : Below w1.heap.size w1 (w1.alloc (.cells #[] 45)) := (Below.refl _ _).alloc (Nat.le_refl _) _
  have hz := hb.size
  have hM1 := (HM.out _ (Hb1.out.trans (hb.mono Hb1.out.size))).rd
  have hM2 : (thc ml).length = mn * 2 := by rw [thc_len, Hml.out]
  have h0m : 0 + mn = mn := by omega
  go_wp2_with (first | (at_builtin; refine hold ?_) | (at_make; refine hold ?_))
  (with_reducible refine unhold ?_)
  refine wpList_apd rfl _ _ _ rfl Etable w1.heap.size _ 0 _ [] rfl ho _ mn _ (thc ml) rfl hM2 hM1 (thc_one ml) mn h0m (thc ml) rfl (by omega) (by omega) hz ?_
  intro A2 d2 w2 ho2 hg2 _
  have hb2 := hb.grown hg2 hz ho.row_ge
  have hz2 := hb2.size
  have hL1 := (HL.out _ (Hb1.out.trans (hb2.mono Hb1.out.size))).rd
  have hL2 : (thc l).length = n * 2 := by rw [thc_len, Hll.out]
  clear ho hb hz hM1 hM2 hg2
  go_wp2_with (first | (at_builtin; refine hold ?_) | (at_make; refine hold ?_))
  (with_reducible refine unhold ?_)
  refine wpList_apd rfl _ _ _ rfl Etable w1.heap.size _ mn _ (thc ml) rfl ho2 _ n _ (thc l) rfl hL2 hL1 (thc_one l) N HNN.out.symm (thc (ml ++ l)) (thc_append ml l).symm (by omega) (by omega) hz2 ?_
  intro A3 d3 w3 ho3 hg3 _
  have hb3 := hb2.grown hg3 hz2 ho2.row_ge
  have Hw3 := Lib.hid (Hw1.out.trans (hb3.mono Hw1.out.size))
  have Hb3 := Lib.hid (Hb1.out.trans (hb3.mono Hb1.out.size))
  have HA3 : Hid (Tin w3 A3 (ml ++ l)) := ⟨ho3.rd, fun h hh => by
    rcases List.mem_append.1 hh with hh | hh
    · exact (HM.out w3 Hb3.out).kinds h hh
    · exact (HL.out w3 Hb3.out).kinds h hh⟩
  clear ho2 hb2 hz2 hL1 hL2 hg3 ho3 hb3
  obtain ⟨k0, k1, k2, k3, k4, k5, k6⟩ := Hce.out w3 Hw3.out
  go_wp2_with fail
  refine (Hfw.out A3 d3 w3 Hb3.out HA3.out).mono ?_
  rintro e w4 ⟨he, hb4⟩
  have Hw4 := Lib.hid (Hw3.out.trans (hb4.mono Hw3.out.size))
  have Hb4 := Lib.hid (Hb3.out.trans (hb4.mono Hb3.out.size))
  have HA4 := Lib.hid (HA3.out.below hb4)
  clear hb4 k0 k1 k2 k3 k4 k5 k6 Hfw
  rcases he with rfl | ⟨rfl, hf⟩
  · go_wp2_with fail
    go_ret
    exact ⟨rfl, Hb4.out⟩
  · have Hf := Lib.hid hf
    clear hf
    by_cases hta : tablesOk (mt ++ lt) = true
    · have Hmo2 := Lib.hid (Hmo.out hta)
      have hta2 := Hta.out A3 d3 w4 HA4.out Hf.out.1
      rw [if_pos hta] at hta2
      have Hta2 := Lib.hid hta2
      clear hta2 hta Hta Hmo
      go_wp2_with fail
      refine Hta2.out.mono ?_
      rintro e w5 ⟨rfl, hb5⟩
      have Hw5 := Lib.hid (Hw4.out.trans (hb5.mono Hw4.out.size))
      have Hb5 := Lib.hid (Hb4.out.trans (hb5.mono Hb4.out.size))
      have HA5 := Lib.hid (HA4.out.below hb5)
      have htl := Htl.out w5 Hb5.out Hf.out.1
      clear hb5 Hta2 Htl
      by_cases htk : tablesOk lt = true
      · rw [if_pos htk] at htl
        have Htl2 := Lib.hid htl
        clear htl htk
        go_wp2_with fail
        refine Htl2.out.mono ?_
        rintro e w6 ⟨rfl, hb6⟩
        have Hw6 := Lib.hid (Hw5.out.trans (hb6.mono Hw5.out.size))
        have Hb6 := Lib.hid (Hb5.out.trans (hb6.mono Hb5.out.size))
        have HA6 := Lib.hid (HA5.out.below hb6)
        clear hb6 Htl2
        obtain ⟨k0, k1, k2, k3, k4, k5, k6⟩ := Hce.out w6 Hw6.out
        go_wp2_with fail
        refine (Hcl.out w6 Hb6.out Hf.out).mono ?_
        rintro e w7 ⟨⟨XA, xd, rfl, hoX⟩, hb7⟩
        have Hw7 := Lib.hid (Hw6.out.trans (hb7.mono Hw6.out.size))
        have Hb7 := Lib.hid (Hb6.out.trans (hb7.mono Hb6.out.size))
        have HA7 := Lib.hid (HA6.out.below hb7)
        have HrX := Lib.hid hoX.rd
        clear hb7 hoX Hcl k0 k1 k2 k3 k4 k5 k6
        obtain ⟨k0, k1, k2, k3, k4, k5, k6⟩ := Hce.out w7 Hw7.out
        go_wp2_with fail
        refine (Hca.out A3 d3 w7 Hb7.out HA7.out Hf.out).mono ?_
        rintro e w8 ⟨⟨YA, yd, rfl, hoY⟩, hb8⟩
        have Hw8 := Lib.hid (Hw7.out.trans (hb8.mono Hw7.out.size))
        have Hb8 := Lib.hid (Hb7.out.trans (hb8.mono Hb7.out.size))
        have HA8 := Lib.hid (HA7.out.below hb8)
        have HrX8 := Lib.hid (HrX.out.below hb8)
        have HrY := Lib.hid hoY.rd
        clear hb8 hoY Hca HrX k0 k1 k2 k3 k4 k5 k6
        by_cases hce : C.2 = 0
        · obtain ⟨rfl, rfl, hre, hrl, hkt⟩ := Hmo2.out hce
          obtain ⟨cl, ce⟩ := D
          obtain ⟨rl, re⟩ := Q
          dsimp only at hce hre hrl hkt HrX8 HrY
          subst hce
          subst hre
          obtain ⟨T, hT1, hT2⟩ := kc_bs cl hkt
          have HrX9 := HrX8.out
          have HrY9 := HrY.out
          rw [hT2] at HrX9 HrY9
          obtain ⟨cn, hcn⟩ : ∃ m, cl.length = m := ⟨_, rfl⟩
          rw [hcn] at hT1
          have HT1 := Lib.hid hT1
          have HX := Lib.hid HrX9
          have HY := Lib.hid HrY9
          obtain ⟨rn, hrn⟩ : ∃ m, rl.length = m := ⟨_, rfl⟩
          dsimp only at Hnl Hna
          rw [hrn] at Hnl Hna hrl
          have hrnb : rn ≤ 13 := by have := Hf.out.2.joins; omega
          clear hrl
          have Hrn := Lib.hid hrn
          clear hT1 hT2 hkt HrX8 HrY HrX9 HrY9 hrn Hmo2
          obtain ⟨k0, k1, k2, k3, k4, k5, k6⟩ := Hce.out w8 Hw8.out
          try dsimp only
          try rw [hcn]
          go_wp2_with fail
          refine (Hnl.out w8 Hb8.out Hf.out).mono ?_
          rintro e w9 ⟨⟨NA, hs, nd, rfl, hhs, hrN, hil⟩, hb9⟩
          have Hw9 := Lib.hid (Hw8.out.trans (hb9.mono Hw8.out.size))
          have Hb9 := Lib.hid (Hb8.out.trans (hb9.mono Hb8.out.size))
          have HA9 := Lib.hid (HA8.out.below hb9)
          have HX9 := Lib.hid (HX.out.below hb9)
          have HY9 := Lib.hid (HY.out.below hb9)
          have HrN := Lib.hid hrN
          have Hil := Lib.hid hil
          clear hb9 hrN hil hhs k0 k1 k2 k3 k4 k5 k6 Hnl HX HY
          obtain ⟨k0, k1, k2, k3, k4, k5, k6⟩ := Hce.out w9 Hw9.out
          go_wp2_with fail
          refine (Hna.out A3 d3 w9 Hb9.out HA9.out Hf.out).mono ?_
          rintro e wA ⟨⟨NB, hs2, nd2, rfl, hhs2, hrN2, hil2⟩, hbA⟩
          have HbA := Lib.hid (Hb9.out.trans (hbA.mono Hb9.out.size))
          have hcvX := run_str wA XA T cn xd HT1.out (HX9.out.below hbA)
          have hcvY := run_str wA YA T cn yd HT1.out (HY9.out.below hbA)
          have HrN1 := Lib.hid (HrN.out.below hbA)
          have HrN2 := Lib.hid hrN2
          have Hil1 := Lib.hid (Hil.out.below hbA)
          have Hil2 := Lib.hid hil2
          have hne1 : ((rn : Int) != (rn : Int)) = false := by simp
          clear hbA hrN2 hil2 hhs2 k0 k1 k2 k3 k4 k5 k6 Hna HX9 HY9 HrN Hil
          go_wp2_with fail
          go_loopw [92] (fun vi wr => ∃ i : Nat, vi = .int .i64 i ∧ i ≤ rn ∧ Hid (Below wA.heap.size wA wr)) (fun vi _ => rn - (intOf vi).toNat)
          case atStart => exact ⟨0, rfl, by omega, Below.refl _ _⟩
          case round =>
            obtain ⟨i, rfl, hi, Hb⟩ := hrel
            by_cases hin : i < rn
            · have hiI : (i : Int) < (rn : Int) := by omega
              have hiI0 : (0 : Int) ≤ (i : Int) := by omega
              have hir : i < rl.length := by rw [Hrn.out]; exact hin
              obtain ⟨SA, sd, he1, hrS⟩ := (Hil1.out.below Hb.out) i rl[i] (List.getElem?_eq_getElem hir)
              obtain ⟨SB, sd2, he2, hrS2⟩ := (Hil2.out.below Hb.out) i rl[i] (List.getElem?_eq_getElem hir)
              obtain ⟨nb, no, hNe, hnr⟩ := (HrN1.out.below Hb.out) (fun e => by rw [e] at he1; cases he1)
              obtain ⟨mb, mo, hMe, hmr⟩ := (HrN2.out.below Hb.out) (fun e => by rw [e] at he2; cases he2)
              have c0 := hnr i _ he1
              have c1' := hmr i _ he2
              subst hNe
              subst hMe
              obtain ⟨sn, hsn⟩ : ∃ sn, sn = (rl[i]).length := ⟨_, rfl⟩
              rw [← hsn] at c0 c1'
              have Hin := Lib.hid (ints_same rl[i] sn SA SB sd sd2 wr.drew hsn.symm hrS hrS2 (by
                have h1 := Hsm.out Hf.out.1 rl[i] (List.getElem_mem hir)
                omega))
              clear he1 he2 hnr hmr hrS hrS2 hir hsn
              go_wp2_with fail
              refine wp_region_held_drew (S := fun w' => w'.cell? ⟨nb, no + i, none⟩ = some (.slice SA sn sd) ∧ w'.cell? ⟨mb, mo + i, none⟩ = some (.slice SB sn sd2)) (by kernel_rfl) ⟨c0, c1'⟩ (fun hHeld => ?_)
              (refine wpAnyH_take (i := 0) (oi := ?oi0_1) (v := ?vv0_1) ?hi0_1 (by kernel_rfl) (by kernel_rfl) (by kernel_rfl) ?hQ0_1 ?hy0_1 (by assumption) ?rest0_1; (case hi0_1 => ((simp only [List.getElem?_toArray, List.getElem?_cons_zero]); rfl)); (case hQ0_1 => exact (fun _ _ _ h => h)); (case hy0_1 => (refine Or.inl ⟨by rfl, ?_⟩; intro w hSw; (try dsimp only at hSw); go_simp; try (with_reducible rfl))); (try simp only [Act.put, List.setIfInBounds_toArray, List.set_cons_zero, List.set_cons_succ]))
              (refine wpAnyH_take (i := 1) (oi := ?oi1_2) (v := ?vv1_2) ?hi1_2 (by kernel_rfl) (by kernel_rfl) (by kernel_rfl) ?hQ1_2 ?hy1_2 (by assumption) ?rest1_2; (case hi1_2 => ((simp only [List.getElem?_toArray, List.getElem?_cons_succ, List.getElem?_cons_zero]); rfl)); (case hQ1_2 => exact (fun _ _ _ h => h)); (case hy1_2 => (refine Or.inl ⟨by rfl, ?_⟩; intro w hSw; (try dsimp only at hSw); go_simp; try (with_reducible rfl))); (try simp only [Act.put, List.setIfInBounds_toArray, List.set_cons_zero, List.set_cons_succ]))
              (refine wpAnyH_take (i := 2) (oi := ?oi2_3) (v := ?vv2_3) ?hi2_3 (by kernel_rfl) (by kernel_rfl) (by kernel_rfl) ?hQ2_3 ?hy2_3 (by assumption) ?rest2_3; (case hi2_3 => ((simp only [List.getElem?_toArray, List.getElem?_cons_succ, List.getElem?_cons_zero]); rfl)); (case hQ2_3 => exact (fun _ _ _ h => h)); (case hy2_3 => (refine Or.inl ⟨by rfl, ?_⟩; intro w hSw; (try dsimp only at hSw); go_simp; try (with_reducible rfl))); (try simp only [Act.put, List.setIfInBounds_toArray, List.set_cons_zero, List.set_cons_succ]))
              (refine wpAnyH_take (i := 3) (oi := ?oi3_4) (v := ?vv3_4) ?hi3_4 (by kernel_rfl) (by kernel_rfl) (by kernel_rfl) ?hQ3_4 ?hy3_4 (by assumption) ?rest3_4; (case hi3_4 => ((simp only [List.getElem?_toArray, List.getElem?_cons_succ, List.getElem?_cons_zero]); rfl)); (case hQ3_4 => exact (fun _ _ _ h => h)); (case hy3_4 => (refine Or.inl ⟨by rfl, ?_⟩; intro w hSw; (try dsimp only at hSw); go_simp; try (with_reducible rfl))); (try simp only [Act.put, List.setIfInBounds_toArray, List.set_cons_zero, List.set_cons_succ]))
              (refine wpAnyH_take (i := 4) (oi := ?oi4_5) (v := ?vv4_5) ?hi4_5 (by kernel_rfl) (by kernel_rfl) (by kernel_rfl) ?hQ4_5 ?hy4_5 (by assumption) ?rest4_5; (case hi4_5 => ((simp only [List.getElem?_toArray, List.getElem?_cons_succ, List.getElem?_cons_zero]); rfl)); (case hQ4_5 => exact (fun _ _ _ h => h)); (case hy4_5 => (refine Or.inl ⟨by rfl, ?_⟩; intro w hSw; (try dsimp only at hSw); go_simp; try (with_reducible rfl))); (try simp only [Act.put, List.setIfInBounds_toArray, List.set_cons_zero, List.set_cons_succ]))
              (refine wpAnyH_take (i := 5) (oi := ?oi5_6) (v := ?vv5_6) ?hi5_6 (by kernel_rfl) (by kernel_rfl) (by kernel_rfl) ?hQ5_6 ?hy5_6 (by assumption) ?rest5_6; (case hi5_6 => ((simp only [List.getElem?_toArray, List.getElem?_cons_succ, List.getElem?_cons_zero]); rfl)); (case hQ5_6 => exact (fun _ _ _ h => h)); (case hy5_6 => (refine Or.inl ⟨by rfl, ?_⟩; intro w hSw; (try dsimp only at hSw); go_simp; try (with_reducible rfl))); (try simp only [Act.put, List.setIfInBounds_toArray, List.set_cons_zero, List.set_cons_succ]))
              (refine wpAnyH_take (i := 6) (oi := ?oi6_7) (v := ?vv6_7) ?hi6_7 (by kernel_rfl) (by kernel_rfl) (by kernel_rfl) ?hQ6_7 ?hy6_7 (by assumption) ?rest6_7; (case hi6_7 => ((simp only [List.getElem?_toArray, List.getElem?_cons_succ, List.getElem?_cons_zero]); rfl)); (case hQ6_7 => exact (fun _ _ _ h => h)); (case hy6_7 => (refine Or.inl ⟨by rfl, ?_⟩; intro w hSw; (try dsimp only at hSw); go_simp; try (with_reducible rfl))); (try simp only [Act.put, List.setIfInBounds_toArray, List.set_cons_zero, List.set_cons_succ]))
              (refine wpAnyH_take (i := 7) (oi := ?oi7_8) (v := ?vv7_8) ?hi7_8 (by kernel_rfl) (by kernel_rfl) (by kernel_rfl) ?hQ7_8 ?hy7_8 (by assumption) ?rest7_8; (case hi7_8 => ((simp only [List.getElem?_toArray, List.getElem?_cons_succ, List.getElem?_cons_zero]); rfl)); (case hQ7_8 => exact (fun _ _ _ h => h)); (case hy7_8 => (refine Or.inl ⟨by rfl, ?_⟩; intro w hSw; (try dsimp only at hSw); go_simp; try (with_reducible rfl))); (try simp only [Act.put, List.setIfInBounds_toArray, List.set_cons_zero, List.set_cons_succ]))
              (refine wpAnyH_ready (rs := [8]) (by kernel_rfl) (by simp) ?_; refine AllReadyH.cons (o := ?oc8_9) ?ho8_9 (fun K hK => ?_) AllReadyH.nil; (case ho8_9 => ((simp only [List.getElem?_toArray, List.getElem?_cons_succ, List.getElem?_cons_zero]); rfl)); go_simp)
              refine Hin.out.mono ?_
              rintro e wB ⟨rfl, hbB⟩
              have hbB' : Below wr.drew.heap.size wr.drew wB := hbB
              have Hb9' := Lib.hid (Hb.out.drew.trans (hbB'.mono Hb.out.size))
              have hS2 : wB.cell? ⟨nb, no + i, none⟩ = some (.slice SA sn sd) ∧ wB.cell? ⟨mb, mo + i, none⟩ = some (.slice SB sn sd2) := ⟨cell_keep hbB' c0, cell_keep hbB' c1'⟩
              clear hbB hbB'
              go_wp2_with fail
              refine hK.out _ _ hS2 (fun hHeld2 => ?_)
              clear hK
              (try simp only [Act.put, List.setIfInBounds_toArray, List.set_cons_zero, List.set_cons_succ])
              (refine wpAnyH_take (i := 9) (oi := ?oi9_10) (v := ?vv9_10) ?hi9_10 (by kernel_rfl) (by kernel_rfl) (by kernel_rfl) ?hQ9_10 ?hy9_10 (by assumption) ?rest9_10; (case hi9_10 => ((simp only [List.getElem?_toArray, List.getElem?_cons_succ, List.getElem?_cons_zero]); rfl)); (case hQ9_10 => exact (fun _ _ _ h => h)); (case hy9_10 => (refine Or.inl ⟨by rfl, ?_⟩; intro w hSw; (try dsimp only at hSw); go_simp; try (with_reducible rfl))); (try simp only [Act.put, List.setIfInBounds_toArray, List.set_cons_zero, List.set_cons_succ]))
              refine wpAnyH_done (by kernel_rfl) ?_ _
              clear hHeld hHeld2
              go_wp2_with fail
              go_roundw
              case rel => exact ⟨i + 1, by go_num, by omega, Hb9'⟩
              case measure => simp [intOf]; omega
            · obtain rfl : i = rn := by omega
              have Hfin := Lib.hid (HbA.out.trans (Hb.out.mono HbA.out.size))
              go_wp2_with fail
              go_ret
              exact ⟨rfl, Hfin.out⟩
        · obtain ⟨cl, ce⟩ := C
          dsimp only at hce
          have e1 : (ce == 0) = false := by rw [beq_eq_false_iff_ne]; exact hce
          have e2 : (ce != 0) = true := by simpa using hce
          clear Hmo2
          go_wp2_with fail
          go_ret
          exact ⟨rfl, Hb8.out⟩
      · rw [if_neg htk] at htl
        have Htl2 := Lib.hid htl
        clear htl htk
        go_wp2_with fail
        refine Htl2.out.mono ?_
        rintro e w6 ⟨rfl, hb6⟩
        have Hb6 := Lib.hid (Hb5.out.trans (hb6.mono Hb5.out.size))
        go_wp2_with fail
        go_ret
        exact ⟨rfl, Hb6.out⟩
    · have hta2 := Hta.out A3 d3 w4 HA4.out Hf.out.1
      rw [if_neg hta] at hta2
      have Hta2 := Lib.hid hta2
      clear hta2 hta Hta Hmo
      go_wp2_with fail
      refine Hta2.out.mono ?_
      rintro e w5 ⟨rfl, hb5⟩
      have Hb5 := Lib.hid (Hb4.out.trans (hb5.mono Hb4.out.size))
      go_wp2_with fail
      go_ret
      exact ⟨rfl, Hb5.out⟩
end Go.Proofs.Ytheafcfbahdcfaa
