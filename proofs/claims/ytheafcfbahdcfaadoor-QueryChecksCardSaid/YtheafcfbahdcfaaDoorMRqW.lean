/- The walk of QueryChecks. (Printed by gen_rqw.py.) -/
import Derived.Test.YtheafcfbahdcfaaDoorMRqC
import Derived.Test.YtheafcfbahdcfaaDoorMGrI
import Derived.Test.YtheafcfbahdcfaaDoorMGrK
import Derived.Test.YtheafcfbahdcfaaDoorMGrU
import Derived.Test.YtheafcfbahdcfaaDoorMQyK
import Derived.Test.YtheafcfbahdcfaaDoorMQyP
import Derived.Test.YtheafcfbahdcfaaDoorMGrT
import Derived.Test.YtheafcfbahdcfaaDoorMQzM
import Derived.Test.YtheafcfbahdcfaaDoorMAcW
import Derived.Test.YtheafcfbahdcfaaDoorMGrV
namespace Go.Proofs.YtheafcfbahdcfaaDoor
set_option linter.unusedVariables false
set_option linter.unusedSimpArgs false
open Go.RowKit

attribute [local go_sem ↓] Go.wp_at_zero Go.wp_at_succ

theorem kinds_all (l : List Tb) (q : Qy) : ∀ x ∈ (ktabs l q).flatten, kindT x = true := by
  by_cases h : joinedE l q = 0
  · exact flat_kinds h
  · have e : joinedP l q = [] := by unfold joinedP; rw [if_neg h]
    unfold ktabs
    rw [e]
    intro x hx
    cases hx
theorem check_all (l : List Tb) (q : Qy) : ∀ x ∈ (checkM l q).1, kindT x = true := by
  by_cases h : (checkM l q).2 = 0
  · exact (check_ok h).2.2.2
  · rw [checkM_no h]
    intro x hx
    cases hx

set_option maxHeartbeats 16000000 in
set_option maxRecDepth 100000 in
theorem checks_walk (l : List Th) (L : Option Addr) (n c : Nat) (q : Qy) (a1 : Option Addr) (n1 c1 : Nat) (a2 : Option Addr) (n2 c2 : Nat) (a3 : Option Addr) (n3 c3 : Nat) (a4 : Option Addr) (n4 c4 : Nat) (a5 : Option Addr) (n5 c5 : Nat) (a6 : Option Addr) (n6 c6 : Nat) (w : World) (hl : l.length = n) (hL : Tin w L l) (hq : Qi w q a1 n1 a2 n2 a3 n3 a4 n4 a5 n5 a6 n6) (hc3 : n3 ≤ c3 ∧ c3 ≤ maxLen) (hT : Lib.Utf8Tabs 0 1 w) :
    Calls Tryd.prog 3 #[.slice L n c, .agg #[.string (St8 q.frm), .slice a1 n1 c1, .slice a2 n2 c2, .slice a3 n3 c3, .slice a4 n4 c4, .slice a5 n5 c5, .slice a6 n6 c6]] w fun e w' => e = .returned (.bool true) ∧ Below w.heap.size w w' := by
  have HL := Lib.hid (fun w' (hw : Below w.heap.size w w') => hL.below hw)
  have Hfw := Lib.hid (fun w' (hw : Below w.heap.size w w') => qfew_any l L n c q a1 n1 c1 a2 n2 c2 a3 n3 c3 a4 n4 c4 a5 n5 c5 a6 n6 c6 w' hl (hL.below hw).rd (hq.below hw))
  obtain ⟨lt, hlt⟩ : ∃ lt, lt = l.map Th.t := ⟨_, rfl⟩
  have Hja := Lib.hid (fun w' (hw : Below w.heap.size w w') (hf : FewT lt ∧ q.Few) => joined_any l L n c q a1 n1 c1 a2 n2 c2 a3 n3 c3 a4 n4 c4 a5 n5 c5 a6 n6 c6 w' hl (hL.below hw) (by rw [← hlt]; exact hf.1) (hq.below hw) hf.2)
  have Hjb := Lib.hid (fun w' (hw : Below w.heap.size w w') (hf : FewT lt ∧ q.Few) => rjoined_any l L n c q a1 n1 c1 a2 n2 c2 a3 n3 c3 a4 n4 c4 a5 n5 c5 a6 n6 c6 w' hl (hL.below hw) (by rw [← hlt]; exact hf.1) (hq.below hw) hf.2)
  have Hka := Lib.hid (fun w' (hw : Below w.heap.size w w') (hf : FewT lt ∧ q.Few) => kinds_any l L n c q a1 n1 c1 a2 n2 c2 a3 n3 c3 a4 n4 c4 a5 n5 c5 a6 n6 c6 w' hl (hL.below hw) (by rw [← hlt]; exact hf.1) (hq.below hw) hf.2)
  have Hkb := Lib.hid (fun w' (hw : Below w.heap.size w w') (hf : FewT lt ∧ q.Few) => rkinds_any l L n c q a1 n1 c1 a2 n2 c2 a3 n3 c3 a4 n4 c4 a5 n5 c5 a6 n6 c6 w' hl (hL.below hw) (by rw [← hlt]; exact hf.1) (hq.below hw) hf.2)
  have Hca := Lib.hid (fun w' (hw : Below w.heap.size w w') (hf : FewT lt ∧ q.Few) => qcheck_any l L n c q a1 n1 c1 a2 n2 c2 a3 n3 c3 a4 n4 c4 a5 n5 c5 a6 n6 c6 w' hl (hL.below hw) (by rw [← hlt]; exact hf.1) (hq.below hw) hf.2 hc3)
  have Hcb := Lib.hid (fun w' (hw : Below w.heap.size w w') (hf : FewT lt ∧ q.Few) => rcheck_any l L n c q a1 n1 c1 a2 n2 c2 a3 n3 c3 a4 n4 c4 a5 n5 c5 a6 n6 c6 w' hl (hL.below hw) (by rw [← hlt]; exact hf.1) (hq.below hw) hf.2 hc3 (Utf8Tabs_below hT hw))
  have Hta := Lib.hid (fun w' (hw : Below w.heap.size w w') (hf : FewT lt ∧ q.Few) => tables_any l L n c w' hl (hL.below hw) (by rw [← hlt]; exact hf.1))
  have Htb := Lib.hid (fun w' (hw : Below w.heap.size w w') (hf : FewT lt ∧ q.Few) => rtables_any l L n c w' hl (hL.below hw) (by rw [← hlt]; exact hf.1))
  rw [← hlt] at Hfw Hja Hjb Hka Hkb Hca Hcb Hta Htb
  have Hpb : Hid (q.Few → (joinedP lt q).length ≤ 13) := Lib.hid fun h => by
    have h1 := joinedP_le lt q
    have h2 := h.joins
    omega
  have Hol : Hid ((offs 0 ((joinedP lt q).map (tabK lt))).length = (joinedP lt q).length) := by
    show _ = _
    rw [offs_len, List.length_map]
  obtain ⟨TE, hTE⟩ : ∃ TE : Int, TE = if tablesOk lt = true then 0 else 230 := ⟨_, rfl⟩
  rw [← hTE] at Hta Htb
  obtain ⟨F, hF⟩ : ∃ F, F = offs 0 ((joinedP lt q).map (tabK lt)) := ⟨_, rfl⟩
  rw [← hF] at Hja Hjb Hol
  obtain ⟨P, hP⟩ : ∃ P, P = joinedP lt q := ⟨_, rfl⟩
  obtain ⟨E, hE⟩ : ∃ E, E = joinedE lt q := ⟨_, rfl⟩
  obtain ⟨C, hC⟩ : ∃ C, C = checkM lt q := ⟨_, rfl⟩
  have hkc := check_all lt q
  have hka := kinds_all lt q
  obtain ⟨KL, hKL⟩ : ∃ KL, KL = (ktabs lt q).flatten := ⟨_, rfl⟩
  rw [← hP, ← hE] at Hja Hjb
  rw [← hKL, ← hE] at Hka Hkb
  rw [← hC] at Hca Hcb hkc
  rw [← hP] at Hpb Hol
  rw [← hKL] at hka
  obtain ⟨CL, CE⟩ := C
  dsimp only at Hca Hcb hkc
  obtain ⟨T1, hT1, hT2⟩ := kc_bs KL hka
  obtain ⟨T3, hT3, hT4⟩ := kc_bs CL hkc
  rw [hT2] at Hka Hkb
  rw [hT4] at Hca Hcb
  obtain ⟨pn, hpn⟩ : ∃ pn, P.length = pn := ⟨_, rfl⟩
  obtain ⟨kn, hkn⟩ : ∃ kn, KL.length = kn := ⟨_, rfl⟩
  obtain ⟨cn, hcn⟩ : ∃ cn, CL.length = cn := ⟨_, rfl⟩
  rw [hpn] at Hja Hjb Hpb Hol
  rw [hkn] at Hka Hkb hT1
  rw [hcn] at Hca Hcb hT3
  have HT1 := Lib.hid hT1
  have HT3 := Lib.hid hT3
  have Hpn := Lib.hid hpn
  obtain ⟨wb, hwb⟩ : ∃ x, x = w.alloc (.cells #[.string (St8 q.frm), .slice a1 n1 c1, .slice a2 n2 c2, .slice a3 n3 c3, .slice a4 n4 c4, .slice a5 n5 c5, .slice a6 n6 c6] 29) := ⟨_, rfl⟩
  have Hbb : Hid (Below w.heap.size w wb) := by
    show Below _ _ _
    rw [hwb]
    exact (Below.refl _ _).alloc (Nat.le_refl _) _
  have hbx : Blk wb w.heap.size 29 (#[.string (St8 q.frm), .slice a1 n1 c1, .slice a2 n2 c2, .slice a3 n3 c3, .slice a4 n4 c4, .slice a5 n5 c5, .slice a6 n6 c6]).toList := by
    rw [hwb]
    exact Blk.new w _ _
  have Hce := Lib.hid (fun w' (hw : Below wb.heap.size wb w') => (⟨(hbx.below hw).cell 0, (hbx.below hw).cell 1, (hbx.below hw).cell 2, (hbx.below hw).cell 3, (hbx.below hw).cell 4, (hbx.below hw).cell 5, (hbx.below hw).cell 6⟩ : w'.cell? ⟨w.heap.size, 0, none⟩ = some (.string (St8 q.frm)) ∧ w'.cell? ⟨w.heap.size, 1, none⟩ = some (.slice a1 n1 c1) ∧ w'.cell? ⟨w.heap.size, 2, none⟩ = some (.slice a2 n2 c2) ∧ w'.cell? ⟨w.heap.size, 3, none⟩ = some (.slice a3 n3 c3) ∧ w'.cell? ⟨w.heap.size, 4, none⟩ = some (.slice a4 n4 c4) ∧ w'.cell? ⟨w.heap.size, 5, none⟩ = some (.slice a5 n5 c5) ∧ w'.cell? ⟨w.heap.size, 6, none⟩ = some (.slice a6 n6 c6)))
  have Hsh := Lib.hid (qshown_any wb)
  clear hl hL hq hc3 hT hlt hC hP hE hbx hTE hF hKL hT1 hT2 hT3 hT4 hkc hka hpn hkn hcn
  go_enter Tryd.func3, Tryd.ntmps3
  go_wp2_with fail
  rw [← hwb]
  refine Hsh.out.mono ?_
  rintro e w1 ⟨rfl, hb1⟩
  have Hw1 := Lib.hid hb1
  have Hb1 := Lib.hid (Hbb.out.trans (hb1.mono Hbb.out.size))
  obtain ⟨k0, k1, k2, k3, k4, k5, k6⟩ := Hce.out w1 hb1
  clear hb1 hwb Hsh
  go_wp2_with fail
  refine (Hfw.out w1 Hb1.out).mono ?_
  rintro e w2 ⟨he, hb2⟩
  have Hw2 := Lib.hid (Hw1.out.trans (hb2.mono Hw1.out.size))
  have Hb2 := Lib.hid (Hb1.out.trans (hb2.mono Hb1.out.size))
  clear hb2 k0 k1 k2 k3 k4 k5 k6 Hfw
  rcases he with rfl | ⟨rfl, hf⟩
  · go_wp2_with fail
    go_ret
    exact ⟨rfl, Hb2.out⟩
  · have Hf := Lib.hid hf
    clear hf
    have hpb := Hpb.out Hf.out.2
    clear Hpb
    obtain ⟨k0, k1, k2, k3, k4, k5, k6⟩ := Hce.out w2 Hw2.out
    go_wp2_with fail
    refine (Hja.out w2 Hb2.out Hf.out).mono ?_
    rintro e w3 ⟨⟨A1, A2, d1, d2, rfl, h1, h2⟩, hb3⟩
    have Hw3 := Lib.hid (Hw2.out.trans (hb3.mono Hw2.out.size))
    have Hb3 := Lib.hid (Hb2.out.trans (hb3.mono Hb2.out.size))
    have R1 := Lib.hid h1.rd
    have R2 := Lib.hid h2.rd
    clear hb3 k0 k1 k2 k3 k4 k5 k6 Hja h1 h2
    obtain ⟨k0, k1, k2, k3, k4, k5, k6⟩ := Hce.out w3 Hw3.out
    go_wp2_with fail
    refine (Hjb.out w3 Hb3.out Hf.out).mono ?_
    rintro e w4 ⟨⟨A3, A4, d3, d4, rfl, h3, h4⟩, hb4⟩
    have Hw4 := Lib.hid (Hw3.out.trans (hb4.mono Hw3.out.size))
    have Hb4 := Lib.hid (Hb3.out.trans (hb4.mono Hb3.out.size))
    replace R1 := Lib.hid (R1.out.below hb4)
    replace R2 := Lib.hid (R2.out.below hb4)
    have R3 := Lib.hid h3.rd
    have R4 := Lib.hid h4.rd
    clear hb4 k0 k1 k2 k3 k4 k5 k6 Hjb h3 h4
    obtain ⟨k0, k1, k2, k3, k4, k5, k6⟩ := Hce.out w4 Hw4.out
    go_wp2_with fail
    refine (Hka.out w4 Hb4.out Hf.out).mono ?_
    rintro e w5 ⟨⟨A5, d5, rfl, h5⟩, hb5⟩
    have Hw5 := Lib.hid (Hw4.out.trans (hb5.mono Hw4.out.size))
    have Hb5 := Lib.hid (Hb4.out.trans (hb5.mono Hb4.out.size))
    replace R1 := Lib.hid (R1.out.below hb5)
    replace R2 := Lib.hid (R2.out.below hb5)
    replace R3 := Lib.hid (R3.out.below hb5)
    replace R4 := Lib.hid (R4.out.below hb5)
    have R5 := Lib.hid h5.rd
    clear hb5 k0 k1 k2 k3 k4 k5 k6 Hka h5
    obtain ⟨k0, k1, k2, k3, k4, k5, k6⟩ := Hce.out w5 Hw5.out
    go_wp2_with fail
    refine (Hkb.out w5 Hb5.out Hf.out).mono ?_
    rintro e w6 ⟨⟨A6, d6, rfl, h6⟩, hb6⟩
    have Hw6 := Lib.hid (Hw5.out.trans (hb6.mono Hw5.out.size))
    have Hb6 := Lib.hid (Hb5.out.trans (hb6.mono Hb5.out.size))
    replace R1 := Lib.hid (R1.out.below hb6)
    replace R2 := Lib.hid (R2.out.below hb6)
    replace R3 := Lib.hid (R3.out.below hb6)
    replace R4 := Lib.hid (R4.out.below hb6)
    replace R5 := Lib.hid (R5.out.below hb6)
    have R6 := Lib.hid h6.rd
    clear hb6 k0 k1 k2 k3 k4 k5 k6 Hkb h6
    obtain ⟨k0, k1, k2, k3, k4, k5, k6⟩ := Hce.out w6 Hw6.out
    go_wp2_with fail
    refine (Hca.out w6 Hb6.out Hf.out).mono ?_
    rintro e w7 ⟨⟨A7, d7, rfl, h7⟩, hb7⟩
    have Hw7 := Lib.hid (Hw6.out.trans (hb7.mono Hw6.out.size))
    have Hb7 := Lib.hid (Hb6.out.trans (hb7.mono Hb6.out.size))
    replace R1 := Lib.hid (R1.out.below hb7)
    replace R2 := Lib.hid (R2.out.below hb7)
    replace R3 := Lib.hid (R3.out.below hb7)
    replace R4 := Lib.hid (R4.out.below hb7)
    replace R5 := Lib.hid (R5.out.below hb7)
    replace R6 := Lib.hid (R6.out.below hb7)
    have R7 := Lib.hid h7.rd
    clear hb7 k0 k1 k2 k3 k4 k5 k6 Hca h7
    obtain ⟨k0, k1, k2, k3, k4, k5, k6⟩ := Hce.out w7 Hw7.out
    go_wp2_with fail
    refine (Hcb.out w7 Hb7.out Hf.out).mono ?_
    rintro e w8 ⟨⟨A8, d8, rfl, h8⟩, hb8⟩
    have Hw8 := Lib.hid (Hw7.out.trans (hb8.mono Hw7.out.size))
    have Hb8 := Lib.hid (Hb7.out.trans (hb8.mono Hb7.out.size))
    replace R1 := Lib.hid (R1.out.below hb8)
    replace R2 := Lib.hid (R2.out.below hb8)
    replace R3 := Lib.hid (R3.out.below hb8)
    replace R4 := Lib.hid (R4.out.below hb8)
    replace R5 := Lib.hid (R5.out.below hb8)
    replace R6 := Lib.hid (R6.out.below hb8)
    replace R7 := Lib.hid (R7.out.below hb8)
    have R8 := Lib.hid h8.rd
    clear hb8 k0 k1 k2 k3 k4 k5 k6 Hcb h8
    go_wp2_with fail
    refine (Hta.out w8 Hb8.out Hf.out).mono ?_
    rintro e w9 ⟨rfl, hb9⟩
    have Hb9 := Lib.hid (Hb8.out.trans (hb9.mono Hb8.out.size))
    replace R1 := Lib.hid (R1.out.below hb9)
    replace R2 := Lib.hid (R2.out.below hb9)
    replace R3 := Lib.hid (R3.out.below hb9)
    replace R4 := Lib.hid (R4.out.below hb9)
    replace R5 := Lib.hid (R5.out.below hb9)
    replace R6 := Lib.hid (R6.out.below hb9)
    replace R7 := Lib.hid (R7.out.below hb9)
    replace R8 := Lib.hid (R8.out.below hb9)
    clear hb9 Hta
    go_wp2_with fail
    refine (Htb.out w9 Hb9.out Hf.out).mono ?_
    rintro e w9' ⟨rfl, hw9⟩
    subst hw9
    clear Htb
    have i1 := Lib.hid (ints_same (ints P) pn A1 A3 d1 d3 w9' (by rw [ints_len]; exact Hpn.out) R1.out R3.out (by omega))
    go_wp2_with fail
    refine i1.out.mono ?_
    rintro e wA ⟨rfl, hbA⟩
    have HbA := Lib.hid (Hb9.out.trans (hbA.mono Hb9.out.size))
    replace R1 := Lib.hid (R1.out.below hbA)
    replace R2 := Lib.hid (R2.out.below hbA)
    replace R3 := Lib.hid (R3.out.below hbA)
    replace R4 := Lib.hid (R4.out.below hbA)
    replace R5 := Lib.hid (R5.out.below hbA)
    replace R6 := Lib.hid (R6.out.below hbA)
    replace R7 := Lib.hid (R7.out.below hbA)
    replace R8 := Lib.hid (R8.out.below hbA)
    clear hbA i1
    have i2 := Lib.hid (ints_same (ints F) pn A2 A4 d2 d4 wA (by rw [ints_len]; exact Hol.out) R2.out R4.out (by omega))
    go_wp2_with fail
    refine i2.out.mono ?_
    rintro e wB ⟨rfl, hbB⟩
    have HbB := Lib.hid (HbA.out.trans (hbB.mono HbA.out.size))
    replace R1 := Lib.hid (R1.out.below hbB)
    replace R2 := Lib.hid (R2.out.below hbB)
    replace R3 := Lib.hid (R3.out.below hbB)
    replace R4 := Lib.hid (R4.out.below hbB)
    replace R5 := Lib.hid (R5.out.below hbB)
    replace R6 := Lib.hid (R6.out.below hbB)
    replace R7 := Lib.hid (R7.out.below hbB)
    replace R8 := Lib.hid (R8.out.below hbB)
    clear hbB i2
    have v5 := run_str wB A5 T1 kn d5 HT1.out R5.out
    have v6 := run_str wB A6 T1 kn d6 HT1.out R6.out
    have v7 := run_str wB A7 T3 cn d7 HT3.out R7.out
    have v8 := run_str wB A8 T3 cn d8 HT3.out R8.out
    clear R1 R2 R3 R4 R5 R6 R7 R8
    go_wp2_with fail
    go_ret
    exact ⟨rfl, HbB.out⟩
end Go.Proofs.YtheafcfbahdcfaaDoor
