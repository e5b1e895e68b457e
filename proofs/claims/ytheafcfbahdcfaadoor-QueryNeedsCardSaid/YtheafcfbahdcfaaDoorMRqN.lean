/- Walks: the columns that a query needs of each table: the reference's. (Printed by gen_rqn.py.) -/
import Derived.Test.YtheafcfbahdcfaaDoorMRqC
import Derived.Test.YtheafcfbahdcfaaDoorMGrR
import Derived.Test.YtheafcfbahdcfaaDoorMQyY
import Derived.Test.YtheafcfbahdcfaaDoorMAcX
namespace Go.Proofs.YtheafcfbahdcfaaDoor
set_option linter.unusedVariables false
set_option linter.unusedSimpArgs false
open Go.RowKit

attribute [local go_sem ↓] Go.wp_at_zero Go.wp_at_succ

set_option maxHeartbeats 32000000 in
set_option maxRecDepth 100000 in
theorem rneeds_any (l : List Th) (L : Option Addr) (n c : Nat) (q : Qy) (a1 : Option Addr) (n1 c1 : Nat) (a2 : Option Addr) (n2 c2 : Nat) (a3 : Option Addr) (n3 c3 : Nat) (a4 : Option Addr) (n4 c4 : Nat) (a5 : Option Addr) (n5 c5 : Nat) (a6 : Option Addr) (n6 c6 : Nat) (w : World) (hl : l.length = n) (hL : Tin w L l) (hf : FewT (l.map Th.t)) (hq : Qi w q a1 n1 a2 n2 a3 n3 a4 n4 a5 n5 a6 n6) (hqf : q.Few) (hc3 : n3 ≤ c3 ∧ c3 ≤ maxLen) (hT : Lib.Utf8Tabs 0 1 w) :
    Calls Tryd.prog 17 #[.slice L n c, .agg #[.string (St8 q.frm), .slice a1 n1 c1, .slice a2 n2 c2, .slice a3 n3 c3, .slice a4 n4 c4, .slice a5 n5 c5, .slice a6 n6 c6]] w fun e w' => (∃ A hs d, e = .returned (.tuple #[.slice A (needsM (l.map Th.t) q).1.length d, .int .i64 (needsM (l.map Th.t) q).2]) ∧ hs.length = (needsM (l.map Th.t) q).1.length ∧ Rd w' A hs ∧ ILists w' hs (needsM (l.map Th.t) q).1) ∧ Below w.heap.size w w' := by
  obtain ⟨lt, hlt⟩ : ∃ lt, lt = l.map Th.t := ⟨_, rfl⟩
  have Hl := Lib.hid hl
  have HL := Lib.hid (fun w' (hw : Below w.heap.size w w') => hL.below hw)
  have HQ := Lib.hid (fun w' (hw : Below w.heap.size w w') => hq.below hw)
  have Hck := Lib.hid (fun w' (hw : Below w.heap.size w w') => rcheck_any l L n c q a1 n1 c1 a2 n2 c2 a3 n3 c3 a4 n4 c4 a5 n5 c5 a6 n6 c6 w' hl (hL.below hw) hf (hq.below hw) hqf hc3 (Utf8Tabs_below hT hw))
  have Hjd := Lib.hid (fun w' (hw : Below w.heap.size w w') => rjoined_any l L n c q a1 n1 c1 a2 n2 c2 a3 n3 c3 a4 n4 c4 a5 n5 c5 a6 n6 c6 w' hl (hL.below hw) hf (hq.below hw) hqf)
  have Hkd := Lib.hid (fun w' (hw : Below w.heap.size w w') => rkinds_any l L n c q a1 n1 c1 a2 n2 c2 a3 n3 c3 a4 n4 c4 a5 n5 c5 a6 n6 c6 w' hl (hL.below hw) hf (hq.below hw) hqf)
  rw [← hlt] at Hck Hjd Hkd hf ⊢
  have Hlt := Lib.hid hlt
  have hn12 := hf.len
  rw [hlt, List.length_map, hl] at hn12
  have hn1 := hqf.joins
  have hn2 := hqf.asked
  have hn3 := hqf.by_
  have hn4 := hqf.aggs
  have hn5 := hqf.want
  rw [hq.l1] at hn1
  rw [hq.l2] at hn2
  rw [hq.l3] at hn3
  rw [hq.l4] at hn4
  rw [hq.l5] at hn5
  obtain ⟨P, hP⟩ : ∃ P, P = joinedP lt q := ⟨_, rfl⟩
  obtain ⟨ks, hks⟩ : ∃ ks, ks = ktabs lt q := ⟨_, rfl⟩
  have hksP : ks = P.map (tabK lt) := by rw [hks, hP]; rfl
  obtain ⟨E, hE⟩ : ∃ E, E = joinedE lt q := ⟨_, rfl⟩
  rw [← hP, ← hE, ← hksP] at Hjd
  rw [← hks, ← hE] at Hkd
  have hklP : ks.length = P.length := by rw [hksP, List.length_map]
  have hkfl : ks.flatten.length ≤ 160 := by
    have h1 := tabs_le hf.kinds P
    rw [← hksP] at h1
    have h2 := joinedP_le lt q
    rw [← hP, hq.l1] at h2
    omega
  obtain ⟨C, hC⟩ : ∃ C, C = checkM lt q := ⟨_, rfl⟩
  rw [← hC] at Hck
  obtain ⟨R, hR⟩ : ∃ R, R = needsM lt q := ⟨_, rfl⟩
  rw [← hR]
  have HRa : Hid (¬ C.2 = 0 → R = ([], C.2)) := Lib.hid fun h => by
    rw [hR, hC]
    rw [hC] at h
    unfold needsM
    rw [if_pos h]
  obtain ⟨all, hall⟩ : ∃ all, all = allCols ks q := ⟨_, rfl⟩
  have HRb : Hid (C.2 = 0 → R = (needsF all 0 ks, 0)) := Lib.hid fun h => by
    rw [hC] at h
    rw [hR, hall, hks]
    unfold needsM
    rw [if_neg (fun h2 => h2 h)]
  have Hmem : Hid (∀ x, x ∈ all ↔ x ∈ joinCols 0 ks q.joins ++ askedC q) := Lib.hid fun x => by rw [hall]; exact (allC_mem ks q x).symm
  obtain ⟨kn, hkn⟩ : ∃ kn, ks.flatten.length = kn := ⟨_, rfl⟩
  have HEz : Hid (C.2 = 0 → E = 0 ∧ ks.length = n1 + 1 ∧ (∀ i (hi : i < q.joins.length), 0 ≤ (q.joins[i]).left ∧ (q.joins[i]).left < (kn : Int) ∧ 0 ≤ (q.joins[i]).right ∧ (preL ks (i + 1) : Int) + (q.joins[i]).right < (kn : Int)) ∧ ∀ c ∈ askedC q, 0 ≤ c ∧ c < (kn : Int)) := Lib.hid fun h => by
    rw [hC] at h
    obtain ⟨h1, h2⟩ := checkM_zero h
    have h3 : ks.length = q.joins.length + 1 := by rw [hklP, hP, joinedP_len h1]
    rw [← hks] at h2
    have h4 : (checkK ks q).2 = 0 := by
      unfold checkM at h
      rw [if_neg (fun h9 => h9 h1), ← hks] at h
      exact h
    refine ⟨by rw [hE]; exact h1, by rw [h3, hq.l1], fun i hi => ?_, ?_⟩
    · rw [← hkn]
      exact join_in h3 h2 i hi
    · rw [← hkn]
      exact askedC_in h4
  rw [hkn] at Hkd hkfl
  have HPl : Hid (∀ k ∈ P, k < l.length) := Lib.hid fun k hk => by
    rw [hP] at hk
    have := joinedP_lt hk
    rwa [hlt, List.length_map] at this
  have Hkk := Lib.hid hf.kinds
  have HksP := Lib.hid hksP
  have Hkn := Lib.hid hkn
  have Hcl := Lib.hid (colsR_len q.asked)
  obtain ⟨pn, hpl⟩ : ∃ pn, P.length = pn := ⟨_, rfl⟩
  have hpm : pn ≤ 13 := by
    rw [← hpl, hP]
    have h2 := joinedP_le lt q
    rw [hq.l1] at h2
    omega
  rw [hpl] at Hjd hklP
  have Hpl := Lib.hid hpl
  have HklP := Lib.hid hklP
  obtain ⟨wb, hwb⟩ : ∃ x, x = w.alloc (.cells #[.string (St8 q.frm), .slice a1 n1 c1, .slice a2 n2 c2, .slice a3 n3 c3, .slice a4 n4 c4, .slice a5 n5 c5, .slice a6 n6 c6] 29) := ⟨_, rfl⟩
  have Hbb : Hid (Below w.heap.size w wb) := by
    show Below _ _ _
    rw [hwb]
    exact (Below.refl _ _).alloc (Nat.le_refl _) _
  have hbx : Blk wb w.heap.size 29 (#[.string (St8 q.frm), .slice a1 n1 c1, .slice a2 n2 c2, .slice a3 n3 c3, .slice a4 n4 c4, .slice a5 n5 c5, .slice a6 n6 c6]).toList := by
    rw [hwb]
    exact Blk.new w _ _
  have Hce := Lib.hid (fun w' (hw : Below wb.heap.size wb w') => (⟨(hbx.below hw).cell 0, (hbx.below hw).cell 1, (hbx.below hw).cell 2, (hbx.below hw).cell 3, (hbx.below hw).cell 4, (hbx.below hw).cell 5, (hbx.below hw).cell 6⟩ : w'.cell? ⟨w.heap.size, 0, none⟩ = some (.string (St8 q.frm)) ∧ w'.cell? ⟨w.heap.size, 1, none⟩ = some (.slice a1 n1 c1) ∧ w'.cell? ⟨w.heap.size, 2, none⟩ = some (.slice a2 n2 c2) ∧ w'.cell? ⟨w.heap.size, 3, none⟩ = some (.slice a3 n3 c3) ∧ w'.cell? ⟨w.heap.size, 4, none⟩ = some (.slice a4 n4 c4) ∧ w'.cell? ⟨w.heap.size, 5, none⟩ = some (.slice a5 n5 c5) ∧ w'.cell? ⟨w.heap.size, 6, none⟩ = some (.slice a6 n6 c6)))
  clear hlt hl hL hf hq hqf hP hE hks hksP hR hklP hpl hbx hc3 hC hall hT hkn
  go_enter Tryd.func17, Tryd.ntmps17
  go_wp2_with fail
  rw [← hwb]
  refine (Hck.out wb Hbb.out).mono ?_
  rintro e w1 ⟨⟨A0, d0, rfl, -⟩, hb1⟩
  have Hw1 := Lib.hid hb1
  have Hb1 := Lib.hid (Hbb.out.trans (hb1.mono Hbb.out.size))
  obtain ⟨cl, ce⟩ := C
  dsimp only at HRa HRb HEz
  clear Hck hb1 hwb
  by_cases hce : ce = 0
  · obtain ⟨rfl, hkl, hri, hai⟩ := HEz.out hce
    have HR1 := Lib.hid (HRb.out hce)
    have Hkl := Lib.hid hkl
    have Hri := Lib.hid hri
    have Hai := Lib.hid hai
    subst hce
    clear HRa HRb HEz hkl hri hai
    obtain ⟨k0, k1, k2, k3, k4, k5, k6⟩ := Hce.out w1 Hw1.out
    go_wp2_with fail
    refine (Hjd.out w1 Hb1.out).mono ?_
    rintro e w2 ⟨⟨PA, F, dp, df, rfl, hoP, hoF⟩, hb2⟩
    have Hw2 := Lib.hid (Hw1.out.trans (hb2.mono Hw1.out.size))
    have Hb2 := Lib.hid (Hb1.out.trans (hb2.mono Hb1.out.size))
    have HP2 := Lib.hid hoP.rd
    have HF2 := Lib.hid hoF.rd
    clear Hjd hb2 hoP hoF k0 k1 k2 k3 k4 k5 k6
    obtain ⟨k0, k1, k2, k3, k4, k5, k6⟩ := Hce.out w2 Hw2.out
    go_wp2_with fail
    refine (Hkd.out w2 Hb2.out).mono ?_
    rintro e w3 ⟨⟨KA, kc, rfl, -⟩, hb3⟩
    have Hw3 := Lib.hid (Hw2.out.trans (hb3.mono Hw2.out.size))
    have Hb3 := Lib.hid (Hb2.out.trans (hb3.mono Hb2.out.size))
    have HP3 := Lib.hid (HP2.out.below hb3)
    have HF3 := Lib.hid (HF2.out.below hb3)
    clear Hkd hb3 HP2 HF2 k0 k1 k2 k3 k4 k5 k6
    go_wp2_with (first | (at_builtin; refine hold ?_) | (at_make; refine hold ?_))
    (with_reducible refine unhold ?_)
    refine wpList_mkn rfl _ _ _ rfl EboolQ w3.heap.size _ _ _ _ kn rfl rfl rfl rfl (by omega) (by unfold maxLen; omega) (Nat.le_refl _) ?_
    intro w4 ho4 hb4 _
    rw [make_bools] at ho4
    have Hon4 : Hid (OnAt kn (joinCols 0 ks (q.joins.take 0)) w3.heap.size w3.heap.size w3 w4) := by
      show OnAt _ _ _ _ _ _
      rw [List.take_zero, joinCols_none]
      exact ⟨ho4, hb4⟩
    clear ho4 hb4
    go_wp2_with fail
    go_loopw [14] (fun vi wr => ∃ j : Nat, vi = .int .i64 j ∧ j ≤ n1 ∧ Hid (OnAt kn (joinCols 0 ks (q.joins.take j)) w3.heap.size w3.heap.size w3 wr)) (fun vi _ => n1 - (intOf vi).toNat)
    case atStart => exact ⟨0, rfl, by omega, Hon4⟩
    case round =>
      obtain ⟨j, rfl, hj, Ho⟩ := hrel
      have HBw := Lib.hid (Hb3.out.trans (Ho.out.2.mono Hb3.out.size))
      have HWw := Lib.hid (Hw3.out.trans (Ho.out.2.mono Hw3.out.size))
      by_cases hjn : j < n1
      · have hjI : (j : Int) < (n1 : Int) := by omega
        have hjI0 : (0 : Int) ≤ (j : Int) := by omega
        have hjl : j < q.joins.length := by rw [(HQ.out w (Below.refl _ _)).l1]; exact hjn
        obtain ⟨b, o, hLe, c0, c1', c2'⟩ := (HQ.out w (Below.refl _ _)).r1.jn hjl
        obtain ⟨i1, i2, i3, i4⟩ := Hri.out j hjl
        have hsn := joinCols_snoc ks q.joins 0 j hjl (by rw [Hkl.out]; omega)
        obtain ⟨fb, fo, hFe, f0⟩ := HF3.out.nat (offs_get ks 0 (j + 1) (by rw [Hkl.out]; omega))
        rw [Nat.zero_add] at f0
        change w3.cell? _ = some (.int .i64 ((preL ks (j + 1) : Nat) : Int)) at f0
        rw [show (ks.take (j + 1)).flatten.length = preL ks (j + 1) from rfl, Nat.zero_add] at hsn
        subst hFe
        subst hLe
        generalize q.joins[j] = x at *
        obtain ⟨tn, lf, rg⟩ := x
        dsimp only at c0 c1' c2' i1 i2 i3 i4 hsn
        obtain ⟨lN, rfl⟩ := Int.eq_ofNat_of_zero_le i1
        obtain ⟨rN, rfl⟩ := Int.eq_ofNat_of_zero_le i3
        generalize preL ks (j + 1) = p1 at *
        obtain ⟨s1, hs1⟩ : ∃ s1, s1 = p1 + rN := ⟨_, rfl⟩
        have hlk : lN < kn := by omega
        have hsk : s1 < kn := by omega
        have hs1I : (s1 : Int) = (p1 : Int) + (rN : Int) := by omega
        have hput1 := Ho.out.put (S' := (lN : Int) :: joinCols 0 ks (q.joins.take j)) hlk (fun x => List.mem_cons)
        have hput2 := hput1.put (S' := joinCols 0 ks (q.joins.take (j + 1))) hsk (fun x => by
          rw [hsn, List.mem_append, hs1I, List.mem_cons, List.mem_cons, List.mem_cons]
          constructor
          · rintro (h | h | h | h)
            · exact .inr (.inr h)
            · exact .inr (.inl h)
            · exact .inl h
            · cases h
          · rintro (h | h | h)
            · exact .inr (.inr (.inl h))
            · exact .inr (.inl h)
            · exact .inl h)
        have hB1 := hput1.2
        obtain ⟨oc1, of1⟩ := Ho.out.cell hlk
        obtain ⟨oc2, of2⟩ := hput1.cell hsk
        have c1w := cell_keep HBw.out c1'
        have c2w := cell_keep (Hb3.out.trans (hB1.mono Hb3.out.size)) c2'
        have f1w := cell_keep hB1 f0
        obtain ⟨-, k1w, -, -, -, -, -⟩ := Hce.out _ (Hw3.out.trans (hB1.mono Hw3.out.size))
        obtain ⟨-, k1, -, -, -, -, -⟩ := Hce.out wr HWw.out
        generalize decide ((lN : Int) ∈ joinCols 0 ks (q.joins.take j)) = d1 at *
        generalize decide ((s1 : Int) ∈ (lN : Int) :: joinCols 0 ks (q.joins.take j)) = d2 at *
        have hlI : (lN : Int) < (kn : Int) := by omega
        have hlI0 : (0 : Int) ≤ (lN : Int) := by omega
        have hsI : (s1 : Int) < (kn : Int) := by omega
        have hsI0 : (0 : Int) ≤ (s1 : Int) := by omega
        have hsum : IntKind.i64.wrap ((p1 : Int) + (rN : Int)) = (s1 : Int) := by rw [IntKind.wrap_i64]; omega
        have hsum2 : wrap64 ((p1 : Int) + (rN : Int)) = (s1 : Int) := by unfold wrap64; omega
        have hi1 : IntKind.i64.wrap ((j : Int) + 1) = (j : Int) + 1 := by rw [IntKind.wrap_i64]; omega
        have hpn1 : (j : Int) + 1 < (pn : Int) := by have h1 := Hkl.out; rw [HklP.out] at h1; omega
        have hj10 : (0 : Int) ≤ (j : Int) + 1 := by omega
        have Hput2 := Lib.hid hput2
        clear hput1 hput2 hB1 hsn hs1 hs1I i1 i2 i3 i4 hjl c0 c1' c2' f0 Hon4 Ho
        go_wp2_with fail
        go_region
        go_wp2_with fail
        refine ⟨⟨j + 1, by go_num, by omega, ⟨Hput2.out.1, Hput2.out.2.drew⟩⟩, by simp only [intOf]; omega⟩
      · obtain rfl : j = n1 := by omega
        have htk : q.joins.take j = q.joins := List.take_of_length_le (by rw [(HQ.out w (Below.refl _ _)).l1]; exact Nat.le_refl _)
        have HonJ : Hid (OnAt kn (joinCols 0 ks q.joins) w3.heap.size w3.heap.size w3 wr) := by
          have := Ho.out
          rwa [htk] at this
        have hjI : ¬ (j : Int) < (j : Int) := by omega
        clear htk Ho Hon4
        obtain ⟨k0, k1, k2, k3, k4, k5, k6⟩ := Hce.out wr HWw.out
        generalize wr = w5 at *
        go_wp2_with fail
        have hq5 := HQ.out w5 HBw.out
        refine (rcols_o q.asked a2 n2 c2 w5 hq5.l2 hq5.r2 (by omega)).mono ?_
        rintro e w6 ⟨⟨CA, cc, rfl, hoC⟩, hb6⟩
        have hz5 := HonJ.out.2.size
        have Hon6 := Lib.hid (HonJ.out.below hb6 hz5)
        have HoC := Lib.hid (hoC.lower hz5)
        obtain ⟨cn, hcn⟩ : ∃ cn, (colsR q.asked).length = cn := ⟨_, rfl⟩
        have hcn60 : cn ≤ 60 := by
          have h1 := Hcl.out
          have h2 := hq5.l2
          omega
        rw [hcn] at HoC ⊢
        clear hoC hb6 hz5 HonJ HBw HWw k0 k1 k2 k3 k4 k5 k6 hcn hq5
        have HB6 := Lib.hid (Hb3.out.trans (Hon6.out.2.mono Hb3.out.size))
        have HW6 := Lib.hid (Hw3.out.trans (Hon6.out.2.mono Hw3.out.size))
        obtain ⟨-, -, -, k3, -, -, -⟩ := Hce.out w6 HW6.out
        have hq6 := HQ.out w6 HB6.out
        have hl3 : (icl q.by_).length = n3 * 1 := by rw [icl_len, hq6.l3, Nat.mul_one]
        have hr3 := hq6.r3
        have hz6 := Hon6.out.2.size
        clear hq6
        go_wp2_with (first | (at_builtin; refine hold ?_) | (at_make; refine hold ?_))
        (with_reducible refine unhold ?_)
        refine wpList_apd rfl _ _ _ rfl Eint' w3.heap.size _ cn _ _ rfl HoC.out _ n3 _ (icl q.by_) rfl hl3 hr3 (icl_one _) (cn + n3) rfl _ rfl (by omega) (by omega) hz6 ?_
        intro A7 d7 w7 ho7 hg7 _
        have Ho7 := Lib.hid ho7
        have Hon7 : Hid (OnAt kn (joinCols 0 ks q.joins) w3.heap.size w3.heap.size w3 w7) := ⟨Hon6.out.1.keeps (by decide) (HoC.out.apd_keeps hg7), Hon6.out.2.grown hg7 hz6 HoC.out.row_ge⟩
        clear ho7 hg7 HB6 HW6 HoC Hon6 hz6 hl3 hr3 k3
        have HB7 := Lib.hid (Hb3.out.trans (Hon7.out.2.mono Hb3.out.size))
        have HW7 := Lib.hid (Hw3.out.trans (Hon7.out.2.mono Hw3.out.size))
        obtain ⟨-, -, -, -, -, k5, -⟩ := Hce.out w7 HW7.out
        have hq7 := HQ.out w7 HB7.out
        have hl5 : (icl q.want).length = n5 * 1 := by rw [icl_len, hq7.l5, Nat.mul_one]
        have hr5 := hq7.r5
        have hz7 := Hon7.out.2.size
        clear hq7
        go_wp2_with (first | (at_builtin; refine hold ?_) | (at_make; refine hold ?_))
        (with_reducible refine unhold ?_)
        refine wpList_apd rfl _ _ _ rfl Eint' w3.heap.size _ (cn + n3) _ _ rfl Ho7.out _ n5 _ (icl q.want) rfl hl5 hr5 (icl_one _) (cn + n3 + n5) rfl _ rfl (by omega) (by omega) hz7 ?_
        intro A8 d8 w8 ho8 hg8 _
        rw [← icl_append, ← icl_append] at ho8
        obtain ⟨X0, hX0⟩ : ∃ X0, X0 = (colsR q.asked ++ q.by_) ++ q.want := ⟨_, rfl⟩
        rw [← hX0] at ho8
        have HX0 := Lib.hid hX0
        have Hon8 : Hid (OnAt kn (joinCols 0 ks q.joins) w3.heap.size w3.heap.size w3 w8) := ⟨Hon7.out.1.keeps (by decide) (Ho7.out.apd_keeps hg8), Hon7.out.2.grown hg8 hz7 Ho7.out.row_ge⟩
        have Ho8 : Hid (Own w8 w3.heap.size 3 1 A8 (cn + n3 + n5) d8 (icl (X0 ++ ((q.aggs.take 0).filter fun a => decide (a.op ≠ 1)).map Ag.col))) := by
          show Own _ _ _ _ _ _ _ _
          rw [List.take_zero, List.filter_nil, List.map_nil, List.append_nil]
          exact ho8
        clear ho8 hg8 HB7 HW7 Ho7 Hon7 hz7 hl5 hr5 k5 hX0
        obtain ⟨m0, hm0⟩ : ∃ m0, cn + n3 + n5 = m0 := ⟨_, rfl⟩
        have hm0m : m0 ≤ 100 := by omega
        have hm0w : ((cn : Int) + (n3 : Int) + (n5 : Int)) = (m0 : Int) := by omega
        rw [hm0] at Ho8
        go_wp2_with fail
        have hm0e := hm0
        go_loopw [15, 16] (fun vx vi wr => ∃ (j m : Nat) (A : Option Addr) (d : Nat), vx = .slice A m d ∧ vi = .int .i64 j ∧ j ≤ n4 ∧ m ≤ 100 + j ∧ Hid (Own wr w3.heap.size 3 1 A m d (icl (X0 ++ ((q.aggs.take j).filter fun a => decide (a.op ≠ 1)).map Ag.col))) ∧ Hid (OnAt kn (joinCols 0 ks q.joins) w3.heap.size w3.heap.size w3 wr)) (fun _ vi _ => n4 - (intOf vi).toNat)
        case atStart => exact ⟨0, m0, A8, d8, by rw [← hm0e], rfl, by omega, by omega, Ho8, Hon8⟩
        case round =>
          clear Ho8 Hon8 hm0 hm0e hm0m hm0w
          obtain ⟨j, m, A, d, rfl, rfl, hj, hm, Ho, Hon⟩ := hrel
          have HBw := Lib.hid (Hb3.out.trans (Hon.out.2.mono Hb3.out.size))
          have HWw := Lib.hid (Hw3.out.trans (Hon.out.2.mono Hw3.out.size))
          by_cases hjn : j < n4
          · have hjI : (j : Int) < (n4 : Int) := by omega
            have hjI0 : (0 : Int) ≤ (j : Int) := by omega
            have hjl : j < q.aggs.length := by rw [(HQ.out w (Below.refl _ _)).l4]; exact hjn
            obtain ⟨b, o, hLe, c0, c1'⟩ := (HQ.out wr HBw.out).r4.ag hjl
            obtain ⟨-, -, -, -, k4, -, -⟩ := Hce.out wr HWw.out
            have hts := List.take_succ_eq_append_getElem hjl
            have Hts := Lib.hid hts
            clear hts
            subst hLe
            generalize q.aggs[j] = x at *
            obtain ⟨op, col⟩ := x
            dsimp only at c0 c1'
            clear hjl
            by_cases hop : op = 1
            · subst hop
              have Ho9 : Hid (Own wr w3.heap.size 3 1 A m d (icl (X0 ++ ((q.aggs.take (j + 1)).filter fun a => decide (a.op ≠ 1)).map Ag.col))) := by
                show Own _ _ _ _ _ _ _ _
                rw [Hts.out, List.filter_append, List.filter_cons_of_neg (by simp), List.filter_nil, List.append_nil]
                exact Ho.out
              clear Ho
              go_wp2_with fail
              go_roundw
              case rel => exact ⟨j + 1, m, A, d, rfl, by go_num, by omega, by omega, Ho9, Hon⟩
              case measure => simp [intOf]; omega
            · have e1 : (op == 1) = false := by rw [beq_eq_false_iff_ne]; exact hop
              have e2 : (op != 1) = true := by simpa using hop
              have hbA : Below wr.heap.size wr (wr.alloc (.cells #[.int .i64 col] 3)) := (Below.refl _ _).alloc (Nat.le_refl _) _
              have ho3 := Ho.out.below hbA
              have hon3 := Hon.out.below hbA Hon.out.2.size
              have hz3 := hon3.2.size
              have hnew := (Blk.new wr 3 #[.int .i64 col]).range
              have Hys : Hid (icl (X0 ++ ((q.aggs.take j).filter fun a => decide (a.op ≠ 1)).map Ag.col) ++ [.int .i64 col] = icl (X0 ++ ((q.aggs.take (j + 1)).filter fun a => decide (a.op ≠ 1)).map Ag.col)) := by
                show _ = _
                rw [← icl_snoc, Hts.out, List.filter_append, List.filter_cons_of_pos (by simpa using hop), List.filter_nil, List.map_append, List.append_assoc]
                rfl
              clear hbA
              go_wp2_with (first | (at_builtin; refine hold ?_) | (at_make; refine hold ?_))
              (with_reducible refine unhold ?_)
              refine wpList_apd rfl _ _ _ rfl Eint' w3.heap.size _ m _ _ rfl ho3 _ 1 _ [.int .i64 col] rfl rfl (fun _ => ⟨_, _, rfl, hnew⟩) (by simp [Value.oneCell']) (m + 1) rfl _ Hys.out (by omega) (by omega) hz3 ?_
              intro A5 d5 wx ho9 hg9 _
              have Hon9 : Hid (OnAt kn (joinCols 0 ks q.joins) w3.heap.size w3.heap.size w3 wx) := ⟨hon3.1.keeps (by decide) (ho3.apd_keeps hg9), hon3.2.grown hg9 hz3 ho3.row_ge⟩
              have Ho9 := Lib.hid ho9
              clear ho9 hg9 ho3 hon3 hnew hz3 Ho Hon
              go_wp2_with fail
              go_roundw
              case rel => exact ⟨j + 1, m + 1, A5, d5, rfl, by go_num, by omega, by omega, Ho9, Hon9⟩
              case measure => simp [intOf]; omega
          · obtain rfl : j = n4 := by omega
            have htk : q.aggs.take j = q.aggs := List.take_of_length_le (by rw [(HQ.out w (Below.refl _ _)).l4]; exact Nat.le_refl _)
            have hoA := Ho.out
            rw [htk, HX0.out] at hoA
            change Own _ _ _ _ _ _ _ (icl (askedC q)) at hoA
            have HoA := Lib.hid hoA
            have hAl : (askedC q).length = m := by
              have := hoA.1
              rw [icl_len, Nat.mul_one] at this
              exact this
            have HAl := Lib.hid hAl
            have hjI : ¬ (j : Int) < (j : Int) := by omega
            obtain ⟨-, -, -, -, k4, -, -⟩ := Hce.out wr HWw.out
            have Hon9 : Hid (OnAt kn (joinCols 0 ks q.joins ++ (askedC q).take 0) w3.heap.size w3.heap.size w3 wr) := by
              show OnAt _ _ _ _ _ _
              rw [List.take_zero, List.append_nil]
              exact Hon.out
            clear htk hoA hAl Ho Hon HBw HWw HX0
            generalize wr = w9 at *
            go_wp2_with fail
            go_loopw [17] (fun vi wr => ∃ i : Nat, vi = .int .i64 i ∧ i ≤ m ∧ Hid (OnAt kn (joinCols 0 ks q.joins ++ (askedC q).take i) w3.heap.size w3.heap.size w3 wr) ∧ Hid (Keeps [4] w3.heap.size w9 wr)) (fun vi _ => m - (intOf vi).toNat)
            case atStart => exact ⟨0, rfl, by omega, Hon9, Keeps.refl _ _ _⟩
            case round =>
              obtain ⟨i, rfl, hi, Hon, Hkp⟩ := hrel
              by_cases him : i < m
              · have hiI : (i : Int) < (m : Int) := by omega
                have hiI0 : (0 : Int) ≤ (i : Int) := by omega
                have hil : i < (askedC q).length := by rw [HAl.out]; exact him
                obtain ⟨b, o, hAe, c0⟩ := (HoA.out.keeps (by decide) Hkp.out).rd.num hil
                obtain ⟨i1, i2⟩ := Hai.out _ (List.getElem_mem hil)
                have hts := List.take_succ_eq_append_getElem hil
                subst hAe
                generalize (askedC q)[i] = v at *
                obtain ⟨vN, rfl⟩ := Int.eq_ofNat_of_zero_le i1
                have hvk : vN < kn := by omega
                have hput := Hon.out.put (S' := joinCols 0 ks q.joins ++ (askedC q).take (i + 1)) hvk (fun x => by
                  rw [hts]
                  simp only [List.mem_append, List.mem_singleton]
                  constructor
                  · rintro (h | h | h)
                    · exact .inr (.inl h)
                    · exact .inr (.inr h)
                    · exact .inl h
                  · rintro (h | h | h)
                    · exact .inr (.inr h)
                    · exact .inl h
                    · exact .inr (.inl h))
                obtain ⟨oc1, of1⟩ := Hon.out.cell hvk
                have hkp2 : Keeps [4] w3.heap.size w9 (wr.setCell ⟨w3.heap.size, vN, none⟩ (.bool true)) := Hkp.out.setCell (Own.blk Hon.out.1).1 (by simp) (Nat.le_refl _) _
                have hvI : (vN : Int) < (kn : Int) := by omega
                have hvI0 : (0 : Int) ≤ (vN : Int) := by omega
                generalize decide ((vN : Int) ∈ joinCols 0 ks q.joins ++ (askedC q).take i) = d1 at *
                have Hput := Lib.hid hput
                have Hkp2 := Lib.hid hkp2
                clear hput hkp2 hts hil i1 i2 Hkp Hon
                go_wp2_with fail
                go_roundw
                case rel => exact ⟨i + 1, by go_num, by omega, Hput, Hkp2⟩
                case measure => simp [intOf]; omega
              · obtain rfl : i = m := by omega
                have htk : (askedC q).take i = askedC q := List.take_of_length_le (by rw [HAl.out]; exact Nat.le_refl _)
                have hon := Hon.out
                rw [htk] at hon
                have HonA : Hid (OnAt kn all w3.heap.size w3.heap.size w3 wr) := by
                  show OnAt _ _ _ _ _ _
                  unfold OnAt
                  rw [← onc_congr (n := kn) (S := joinCols 0 ks q.joins ++ askedC q) (S' := all) Hmem.out]
                  exact hon
                have hiI : ¬ (i : Int) < (i : Int) := by omega
                have hz10 := hon.2.size
                have HB10 := Lib.hid (Hb3.out.trans (hon.2.mono Hb3.out.size))
                have HP10 := Lib.hid (HP3.out.below hon.2)
                have HF10 := Lib.hid (HF3.out.below hon.2)
                clear htk hon Hon Hkp HoA HAl Hon9
                generalize wr = w8 at *
                go_wp2_with fail
                go_loopw [18, 19] (fun vo vi wr => ∃ (j : Nat) (A : Option Addr) (d : Nat) (hs : List Value), vo = .slice A j d ∧ vi = .int .i64 j ∧ j ≤ pn ∧ Hid (hs.length = j) ∧ Hid (Own wr w8.heap.size 25 1 A j d hs) ∧ Hid (ILs [25] w8.heap.size wr hs (needsF all 0 (ks.take j))) ∧ Hid (Below w8.heap.size w8 wr)) (fun _ vi _ => pn - (intOf vi).toNat)
                case atStart => exact ⟨0, none, 0, [], rfl, rfl, by omega, rfl, Own.nil _ _ _ _, (fun i x hi => by cases hi), Below.refl _ _⟩
                case round =>
                  obtain ⟨j, A, d, hs, rfl, rfl, hj, Hhs, Ho, HI, Hb⟩ := hrel
                  by_cases hjn : j < pn
                  · have hjI : (j : Int) < (pn : Int) := by omega
                    have hjI0 : (0 : Int) ≤ (j : Int) := by omega
                    have hjP : j < P.length := by rw [Hpl.out]; exact hjn
                    have hjk : j < ks.length := by rw [HklP.out]; exact hjn
                    obtain ⟨pb, po, hPe, p0⟩ := HP10.out.nat (List.getElem?_eq_getElem hjP)
                    have hKl := HPl.out _ (List.getElem_mem hjP)
                    have hke : ks[j] = tabK lt P[j] := by
                      have : ks[j]? = some (tabK lt P[j]) := by rw [HksP.out, List.getElem?_map, List.getElem?_eq_getElem hjP]; rfl
                      rw [List.getElem?_eq_getElem hjk] at this
                      exact Option.some.inj this
                    have hts := List.take_succ_eq_append_getElem hjk
                    have hsu := preL_succ hjk
                    rw [hke] at hts hsu
                    have Hsnoc : Hid (needsF all 0 (ks.take (j + 1)) = needsF all 0 (ks.take j) ++ [someC all (preL ks j) (tabK lt P[j]).length]) := by
                      show _ = _
                      rw [hts, needsF_snoc, Nat.zero_add]
                      rfl
                    subst hPe
                    generalize P[j] = K at *
                    have hKn : K < n := by rw [← Hl.out]; exact hKl
                    have hKI : (K : Int) < (n : Int) := by omega
                    have hKI0 : (0 : Int) ≤ (K : Int) := by omega
                    have hnk : (tabK lt K).length ≤ 12 := tabK_len Hkk.out K
                    have hpre := preL_le ks (j + 1)
                    rw [Hkn.out, hsu] at hpre
                    obtain ⟨fb, fo, hFe, f0⟩ := HF10.out.nat (offs_get ks 0 j hjk)
                    subst hFe
                    rw [Nat.zero_add] at f0
                    change w8.cell? _ = some (.int .i64 ((preL ks j : Nat) : Int)) at f0
                    obtain ⟨lb, lo, hLe, -, t0⟩ := (HL.out w8 HB10.out).rd.table hKl
                    subst hLe
                    rw [show (l[K]).t.kinds = tabK lt K by rw [Hlt.out, tabK_at hKl]] at t0
                    generalize (l[K]).a = ka at *
                    generalize (l[K]).c = kc at *
                    generalize (tabK lt K).length = nk at *
                    generalize preL ks j = a at *
                    clear hts hke hjP hjk hKl hsu
                    have p0w := cell_keep Hb.out p0
                    generalize wr = wo at *
                    go_wp2_with fail
                    go_loopw [20, 21] (fun vs vi wr => ∃ (i m : Nat) (B : Option Addr) (e : Nat), vs = .slice B m e ∧ vi = .int .i64 i ∧ i ≤ nk ∧ m ≤ i ∧ Hid ((someK all a i).length = m) ∧ Hid (Own wr wo.heap.size 3 1 B m e (icl (someK all a i))) ∧ Hid (Below wo.heap.size wo wr)) (fun _ vi _ => nk - (intOf vi).toNat)
                    case atStart => exact ⟨0, 0, none, 0, rfl, rfl, by omega, by omega, rfl, Own.nil _ _ _ _, Below.refl _ _⟩
                    case round =>
                      obtain ⟨i, m, B, e, rfl, rfl, hi, hmi, Hml, Hoi, Hbi⟩ := hrel
                      have hB9 := Hb.out.trans (Hbi.out.mono Hb.out.size)
                      have p1 := cell_keep hB9 p0
                      have t1 := cell_keep hB9 t0
                      have f1 := cell_keep hB9 f0
                      by_cases hin : i < nk
                      · have hiI : (i : Int) < (nk : Int) := by omega
                        have hiI0 : (0 : Int) ≤ (i : Int) := by omega
                        obtain ⟨s1, hs1⟩ : ∃ s1, s1 = a + i := ⟨_, rfl⟩
                        have hsk : s1 < kn := by omega
                        have oc := cell_keep hB9 (HonA.out.cell hsk).1
                        have hsI : (s1 : Int) < (kn : Int) := by omega
                        have hsI0 : (0 : Int) ≤ (s1 : Int) := by omega
                        have hsum : IntKind.i64.wrap ((a : Int) + (i : Int)) = (s1 : Int) := by rw [IntKind.wrap_i64]; omega
                        have hss := someK_succ all a i
                        rw [← hs1] at hss
                        clear hs1 hB9 hpre
                        by_cases hs : (s1 : Int) ∈ all
                        · rw [decide_eq_true hs] at oc
                          rw [if_pos hs] at hss
                          have Hml2 : Hid ((someK all a (i + 1)).length = m + 1) := by
                            show _ = _
                            rw [hss, List.length_append, Hml.out]
                            rfl
                          have Hys : Hid (icl (someK all a i) ++ [.int .i64 (i : Int)] = icl (someK all a (i + 1))) := by
                            show _ = _
                            rw [hss, icl_snoc]
                          have hbA : Below wr.heap.size wr (wr.alloc (.cells #[.int .i64 (i : Int)] 3)) := (Below.refl _ _).alloc (Nat.le_refl _) _
                          have ho3 := Hoi.out.below hbA
                          have hb3 := Hbi.out.trans (hbA.mono Hbi.out.size)
                          have hz3 := hb3.size
                          have hnew := (Blk.new wr 3 #[.int .i64 (i : Int)]).range
                          clear hbA hss hs
                          go_wp2_with (first | (at_builtin; refine hold ?_) | (at_make; refine hold ?_))
                          (with_reducible refine unhold ?_)
                          refine wpList_apd rfl _ _ _ rfl Eint' wo.heap.size _ m _ _ rfl ho3 _ 1 _ [.int .i64 (i : Int)] rfl rfl (fun _ => ⟨_, _, rfl, hnew⟩) (by simp [Value.oneCell']) (m + 1) rfl _ Hys.out (by omega) (by omega) hz3 ?_
                          intro A5 d5 wx ho9 hg9 _
                          have Hb9 := Lib.hid (hb3.grown hg9 hz3 ho3.row_ge)
                          have Ho9 := Lib.hid ho9
                          clear ho9 hg9 ho3 hb3 hnew hz3
                          go_wp2_with fail
                          go_roundw
                          case rel => exact ⟨i + 1, m + 1, A5, d5, rfl, by go_num, by omega, by omega, Hml2, Ho9, Hb9⟩
                          case measure => simp [intOf]; omega
                        · rw [decide_eq_false hs] at oc
                          rw [if_neg hs] at hss
                          have Hml2 : Hid ((someK all a (i + 1)).length = m) := by
                            show _ = _
                            rw [hss, Hml.out]
                          have Ho9 : Hid (Own wr wo.heap.size 3 1 B m e (icl (someK all a (i + 1)))) := by
                            show Own _ _ _ _ _ _ _ _
                            rw [hss]
                            exact Hoi.out
                          clear hss hs
                          go_wp2_with fail
                          go_roundw
                          case rel => exact ⟨i + 1, m, B, e, rfl, by go_num, by omega, by omega, Hml2, Ho9, Hbi⟩
                          case measure => simp [intOf]; omega
                      · obtain rfl : i = nk := by omega
                        have hiI : ¬ (i : Int) < (i : Int) := by omega
                        have hoi := Hoi.out
                        have hml := Hml.out
                        have hsame := someC_of all a i
                        have hp13 : j ≤ 12 := by omega
                        clear Hoi Hml hB9
                        by_cases hm0 : m = 0
                        · subst hm0
                          have hnil : someK all a i = [] := List.eq_nil_of_length_eq_zero hml
                          rw [if_pos hnil] at hsame
                          rw [hnil] at hoi
                          have hbX : Below wr.heap.size wr (wr.alloc (.cells #[.int .i64 0] 3)) := (Below.refl _ _).alloc (Nat.le_refl _) _
                          have hoX := hoi.below hbX
                          have hbX2 := Hbi.out.trans (hbX.mono Hbi.out.size)
                          have hzX := hbX2.size
                          have hnewX := (Blk.new wr 3 #[.int .i64 0]).range
                          have Hsn2 : Hid (needsF all 0 (ks.take (j + 1)) = needsF all 0 (ks.take j) ++ [[0]]) := by
                            show _ = _
                            rw [Hsnoc.out, hsame]
                          clear hnil hml hbX hoi hsame
                          go_wp2_with (first | (at_builtin; refine hold ?_) | (at_make; refine hold ?_))
                          (with_reducible refine unhold ?_)
                          refine wpList_apd rfl _ _ _ rfl Eint' wo.heap.size _ 0 _ _ rfl hoX _ 1 _ [.int .i64 0] rfl rfl (fun _ => ⟨_, _, rfl, hnewX⟩) (by simp [Value.oneCell']) 1 rfl (icl [0]) rfl (by omega) (by omega) hzX ?_
                          intro B2 e2 wy hoy hgy _
                          have hbW := hbX2.grown hgy hzX hoX.row_ge
                          have hbZ : Below wy.heap.size wy (wy.alloc (.cells #[.slice B2 1 e2] 25)) := (Below.refl _ _).alloc (Nat.le_refl _) _
                          have hrs := Rs.of_own (T := [25]) (B := w8.heap.size) (Own.below hoy hbZ) (by decide)
                          have hbU := hbW.trans (hbZ.mono hbW.size)
                          have hob := Ho.out.below hbU
                          have hib := HI.out.keeps (Keeps.of_below hbU)
                          have hbF := Hb.out.trans (hbU.mono Hb.out.size)
                          have hzF := hbF.size
                          have hnew := (Blk.new wy 25 #[.slice B2 1 e2]).range
                          clear hbX2 hoX hzX hnewX hoy hgy hbW hbZ hbU Ho HI
                          go_wp2_with (first | (at_builtin; refine hold ?_) | (at_make; refine hold ?_))
                          (with_reducible refine unhold ?_)
                          refine wpList_apd rfl _ _ _ rfl Eints w8.heap.size _ j _ _ rfl hob _ 1 _ [.slice B2 1 e2] rfl rfl (fun _ => ⟨_, _, rfl, hnew⟩) (by simp [Value.oneCell']) (j + 1) rfl _ rfl (by omega) (by omega) hzF ?_
                          intro A5 d5 wz ho9 hg9 _
                          have Hb9 := Lib.hid (hbF.grown hg9 hzF hob.row_ge)
                          have Ho9 := Lib.hid ho9
                          have hkp : Keeps [25] w8.heap.size _ wz := hob.apd_keeps hg9
                          have HI9 : Hid (ILs [25] w8.heap.size wz (hs ++ [.slice B2 1 e2]) (needsF all 0 (ks.take (j + 1)))) := by
                            show ILs _ _ _ _ _
                            rw [Hsn2.out]
                            exact (hib.keeps hkp).snoc (by rw [needsF_len, Hhs.out, List.length_take, HklP.out]; omega) rfl (hrs.keeps hkp)
                          have Hhs2 : Hid ((hs ++ [Value.slice B2 1 e2]).length = j + 1) := by show _ = _; rw [List.length_append, Hhs.out]; rfl
                          clear ho9 hg9 hkp hob hib hbF hzF hnew hrs
                          go_wp2_with fail
                          go_roundw
                          case rel => exact ⟨j + 1, A5, d5, _, rfl, by go_num, by omega, Hhs2, Ho9, HI9, Hb9⟩
                          case measure => simp [intOf]; omega
                        · have hne : ¬ someK all a i = [] := fun h => hm0 (by rw [← hml, h]; rfl)
                          rw [if_neg hne] at hsame
                          have hm0I : ((m : Int) == 0) = false := by rw [beq_eq_false_iff_ne]; omega
                          have hm0J : ((m : Int) != 0) = true := by rw [bne_iff_ne]; omega
                          have hm0K : (m == 0) = false := by rw [beq_eq_false_iff_ne]; exact hm0
                          have hbZ : Below wr.heap.size wr (wr.alloc (.cells #[.slice B m e] 25)) := (Below.refl _ _).alloc (Nat.le_refl _) _
                          have hrs := Rs.of_own (T := [25]) (B := w8.heap.size) (hoi.below hbZ) (by decide)
                          have hbU := Hbi.out.trans (hbZ.mono Hbi.out.size)
                          have hob := Ho.out.below hbU
                          have hib := HI.out.keeps (Keeps.of_below hbU)
                          have hbF := Hb.out.trans (hbU.mono Hb.out.size)
                          have hzF := hbF.size
                          have hnew := (Blk.new wr 25 #[.slice B m e]).range
                          have Hml3 := Lib.hid hml
                          have Hsn2 : Hid (needsF all 0 (ks.take (j + 1)) = needsF all 0 (ks.take j) ++ [someK all a i]) := by
                            show _ = _
                            rw [Hsnoc.out, hsame]
                          clear hbZ hsame hoi hml hne hbU Ho HI
                          go_wp2_with (first | (at_builtin; refine hold ?_) | (at_make; refine hold ?_))
                          (with_reducible refine unhold ?_)
                          refine wpList_apd rfl _ _ _ rfl Eints w8.heap.size _ j _ _ rfl hob _ 1 _ [.slice B m e] rfl rfl (fun _ => ⟨_, _, rfl, hnew⟩) (by simp [Value.oneCell']) (j + 1) rfl _ rfl (by omega) (by omega) hzF ?_
                          intro A5 d5 wz ho9 hg9 _
                          have Hb9 := Lib.hid (hbF.grown hg9 hzF hob.row_ge)
                          have Ho9 := Lib.hid ho9
                          have hkp : Keeps [25] w8.heap.size _ wz := hob.apd_keeps hg9
                          have HI9 : Hid (ILs [25] w8.heap.size wz (hs ++ [.slice B m e]) (needsF all 0 (ks.take (j + 1)))) := by
                            show ILs _ _ _ _ _
                            rw [Hsn2.out]
                            exact (hib.keeps hkp).snoc (by rw [needsF_len, Hhs.out, List.length_take, HklP.out]; omega) Hml3.out (hrs.keeps hkp)
                          have Hhs2 : Hid ((hs ++ [Value.slice B m e]).length = j + 1) := by show _ = _; rw [List.length_append, Hhs.out]; rfl
                          clear ho9 hg9 hkp hob hib hbF hzF hnew hrs
                          go_wp2_with fail
                          go_roundw
                          case rel => exact ⟨j + 1, A5, d5, _, rfl, by go_num, by omega, Hhs2, Ho9, HI9, Hb9⟩
                          case measure => simp [intOf]; omega
                  · obtain rfl : j = pn := by omega
                    have htk : ks.take j = ks := List.take_of_length_le (by rw [HklP.out]; exact Nat.le_refl _)
                    have hi := HI.out
                    rw [htk] at hi
                    have Hnl : Hid ((needsF all 0 ks).length = j) := by
                      show _ = _
                      rw [needsF_len, HklP.out]
                    have HI2 := Lib.hid hi.lists
                    have Hfin := Lib.hid (HB10.out.trans (Hb.out.mono HB10.out.size))
                    have hjI : ¬ (j : Int) < (j : Int) := by omega
                    clear htk hi
                    go_wp2_with fail
                    go_ret2
                    exact ⟨⟨A, ⟨d, by rw [HR1.out]; show Ending.returned (.tuple #[.slice A _ d, _]) = Ending.returned (.tuple #[.slice A (needsF all 0 ks).length d, _]); rw [Hnl.out]; rfl⟩, hs, by rw [HR1.out]; exact Hhs.out.trans Hnl.out.symm, Ho.out.rd, by rw [HR1.out]; exact HI2.out⟩, Hfin.out⟩
  · have HR2 := Lib.hid (HRa.out hce)
    have e1 : (ce == 0) = false := by rw [beq_eq_false_iff_ne]; exact hce
    have e2 : (ce != 0) = true := by simpa using hce
    clear HRa HRb
    go_wp2_with fail
    go_ret2
    exact ⟨⟨none, [], 0, by rw [HR2.out]; rfl, by rw [HR2.out]; rfl, Rd.nil _ _, by rw [HR2.out]; exact fun i x hi => by cases hi⟩, Hb1.out⟩
end Go.Proofs.YtheafcfbahdcfaaDoor
