/- The walk of QueryNeeds. (Printed by gen_rqw.py.) -/
import Derived.Test.YtheafcfbahdcfaaDoorMRqN
import Derived.Test.YtheafcfbahdcfaaDoorMQyY
import Derived.Test.YtheafcfbahdcfaaDoorMGrT
import Derived.Test.YtheafcfbahdcfaaDoorMAcW
namespace Go.Proofs.YtheafcfbahdcfaaDoor
set_option linter.unusedVariables false
set_option linter.unusedSimpArgs false
open Go.RowKit

attribute [local go_sem ↓] Go.wp_at_zero Go.wp_at_succ

set_option maxHeartbeats 16000000 in
set_option maxRecDepth 100000 in
theorem needs_walk (l : List Th) (L : Option Addr) (n c : Nat) (q : Qy) (a1 : Option Addr) (n1 c1 : Nat) (a2 : Option Addr) (n2 c2 : Nat) (a3 : Option Addr) (n3 c3 : Nat) (a4 : Option Addr) (n4 c4 : Nat) (a5 : Option Addr) (n5 c5 : Nat) (a6 : Option Addr) (n6 c6 : Nat) (w : World) (hl : l.length = n) (hL : Tin w L l) (hq : Qi w q a1 n1 a2 n2 a3 n3 a4 n4 a5 n5 a6 n6) (hc3 : n3 ≤ c3 ∧ c3 ≤ maxLen) (hT : Lib.Utf8Tabs 0 1 w) :
    Calls Tryd.prog 4 #[.slice L n c, .agg #[.string (St8 q.frm), .slice a1 n1 c1, .slice a2 n2 c2, .slice a3 n3 c3, .slice a4 n4 c4, .slice a5 n5 c5, .slice a6 n6 c6]] w fun e w' => e = .returned (.bool true) ∧ Below w.heap.size w w' := by
  have HL := Lib.hid (fun w' (hw : Below w.heap.size w w') => hL.below hw)
  have Hfw := Lib.hid (fun w' (hw : Below w.heap.size w w') => qfew_any l L n c q a1 n1 c1 a2 n2 c2 a3 n3 c3 a4 n4 c4 a5 n5 c5 a6 n6 c6 w' hl (hL.below hw).rd (hq.below hw))
  obtain ⟨lt, hlt⟩ : ∃ lt, lt = l.map Th.t := ⟨_, rfl⟩
  have Hna := Lib.hid (fun w' (hw : Below w.heap.size w w') (hf : FewT lt ∧ q.Few) => needs_any l L n c q a1 n1 c1 a2 n2 c2 a3 n3 c3 a4 n4 c4 a5 n5 c5 a6 n6 c6 w' hl (hL.below hw) (by rw [← hlt]; exact hf.1) (hq.below hw) hf.2 hc3)
  have Hnb := Lib.hid (fun w' (hw : Below w.heap.size w w') (hf : FewT lt ∧ q.Few) => rneeds_any l L n c q a1 n1 c1 a2 n2 c2 a3 n3 c3 a4 n4 c4 a5 n5 c5 a6 n6 c6 w' hl (hL.below hw) (by rw [← hlt]; exact hf.1) (hq.below hw) hf.2 hc3 (Utf8Tabs_below hT hw))
  rw [← hlt] at Hfw Hna Hnb
  have Hsm := Lib.hid (fun (h : FewT lt) => needs_small (q := q) h)
  have Hlb : Hid (q.Few → (needsM lt q).1.length ≤ 13) := Lib.hid fun h => by
    by_cases e : (checkM lt q).2 = 0
    · have h1 := (needs_len e).1
      have h2 := h.joins
      omega
    · rw [needs_no e]
      exact Nat.zero_le _
  obtain ⟨R, hR⟩ : ∃ R, R = needsM lt q := ⟨_, rfl⟩
  rw [← hR] at Hna Hnb Hsm Hlb
  obtain ⟨rl, re⟩ := R
  dsimp only at Hna Hnb Hsm Hlb
  obtain ⟨rn, hrn⟩ : ∃ rn, rl.length = rn := ⟨_, rfl⟩
  rw [hrn] at Hna Hnb Hlb
  have Hrn := Lib.hid hrn
  obtain ⟨wb, hwb⟩ : ∃ x, x = w.alloc (.cells #[.string (St8 q.frm), .slice a1 n1 c1, .slice a2 n2 c2, .slice a3 n3 c3, .slice a4 n4 c4, .slice a5 n5 c5, .slice a6 n6 c6] 29) := ⟨_, rfl⟩
  have Hbb : Hid (Below w.heap.size w wb) := by
    show Below _ _ _
    rw [hwb]
    exact (Below.refl _ _).alloc (Nat.le_refl _) _
  have hbx : Blk wb w.heap.size 29 (#[.string (St8 q.frm), .slice a1 n1 c1, .slice a2 n2 c2, .slice a3 n3 c3, .slice a4 n4 c4, .slice a5 n5 c5, .slice a6 n6 c6]).toList := by
    rw [hwb]
    exact Blk.new w _ _
  have Hce := Lib.hid (fun w' (hw : Below wb.heap.size wb w') => (⟨(hbx.below hw).cell 0, (hbx.below hw).cell 1, (hbx.below hw).cell 2, (hbx.below hw).cell 3, (hbx.below hw).cell 4, (hbx.below hw).cell 5, (hbx.below hw).cell 6⟩ : w'.cell? ⟨w.heap.size, 0, none⟩ = some (.string (St8 q.frm)) ∧ w'.cell? ⟨w.heap.size, 1, none⟩ = some (.slice a1 n1 c1) ∧ w'.cell? ⟨w.heap.size, 2, none⟩ = some (.slice a2 n2 c2) ∧ w'.cell? ⟨w.heap.size, 3, none⟩ = some (.slice a3 n3 c3) ∧ w'.cell? ⟨w.heap.size, 4, none⟩ = some (.slice a4 n4 c4) ∧ w'.cell? ⟨w.heap.size, 5, none⟩ = some (.slice a5 n5 c5) ∧ w'.cell? ⟨w.heap.size, 6, none⟩ = some (.slice a6 n6 c6)))
  have Hsh := Lib.hid (qshown_any wb)
  clear hl hL hq hc3 hT hlt hR hrn hbx
  go_enter Tryd.func4, Tryd.ntmps4
  go_wp2_with fail
  rw [← hwb]
  refine Hsh.out.mono ?_
  rintro e w1 ⟨rfl, hb1⟩
  have Hw1 := Lib.hid hb1
  have Hb1 := Lib.hid (Hbb.out.trans (hb1.mono Hbb.out.size))
  obtain ⟨k0, k1, k2, k3, k4, k5, k6⟩ := Hce.out w1 hb1
  clear hb1 hwb Hsh
  go_wp2_with fail
  refine (Hfw.out w1 Hb1.out).mono ?_
  rintro e w2 ⟨he, hb2⟩
  have Hw2 := Lib.hid (Hw1.out.trans (hb2.mono Hw1.out.size))
  have Hb2 := Lib.hid (Hb1.out.trans (hb2.mono Hb1.out.size))
  clear hb2 k0 k1 k2 k3 k4 k5 k6 Hfw
  rcases he with rfl | ⟨rfl, hf⟩
  · go_wp2_with fail
    go_ret
    exact ⟨rfl, Hb2.out⟩
  · have Hf := Lib.hid hf
    clear hf
    have hrnb := Hlb.out Hf.out.2
    clear Hlb
    obtain ⟨k0, k1, k2, k3, k4, k5, k6⟩ := Hce.out w2 Hw2.out
    go_wp2_with fail
    refine (Hna.out w2 Hb2.out Hf.out).mono ?_
    rintro e w9 ⟨⟨NA, hs, nd, rfl, hhs, hrN, hil⟩, hb9⟩
    have Hw9 := Lib.hid (Hw2.out.trans (hb9.mono Hw2.out.size))
    have Hb9 := Lib.hid (Hb2.out.trans (hb9.mono Hb2.out.size))
    have HrN := Lib.hid hrN
    have Hil := Lib.hid hil
    clear hb9 hrN hil hhs k0 k1 k2 k3 k4 k5 k6 Hna
    obtain ⟨k0, k1, k2, k3, k4, k5, k6⟩ := Hce.out w9 Hw9.out
    go_wp2_with fail
    refine (Hnb.out w9 Hb9.out Hf.out).mono ?_
    rintro e wA ⟨⟨NB, hs2, nd2, rfl, hhs2, hrN2, hil2⟩, hbA⟩
    have HbA := Lib.hid (Hb9.out.trans (hbA.mono Hb9.out.size))
    have HrN1 := Lib.hid (HrN.out.below hbA)
    have HrN2 := Lib.hid hrN2
    have Hil1 := Lib.hid (Hil.out.below hbA)
    have Hil2 := Lib.hid hil2
    have hne1 : ((rn : Int) != (rn : Int)) = false := by simp
    have hne2 : (re != re) = false := by simp
    clear hbA hrN2 hil2 hhs2 k0 k1 k2 k3 k4 k5 k6 Hnb HrN Hil
    go_wp2_with fail
    go_loopw [41] (fun vi wr => ∃ i : Nat, vi = .int .i64 i ∧ i ≤ rn ∧ Hid (Below wA.heap.size wA wr)) (fun vi _ => rn - (intOf vi).toNat)
    case atStart => exact ⟨0, rfl, by omega, Below.refl _ _⟩
    case round =>
      obtain ⟨i, rfl, hi, Hb⟩ := hrel
      by_cases hin : i < rn
      · have hiI : (i : Int) < (rn : Int) := by omega
        have hiI0 : (0 : Int) ≤ (i : Int) := by omega
        have hir : i < rl.length := by rw [Hrn.out]; exact hin
        obtain ⟨SA, sd, he1, hrS⟩ := (Hil1.out.below Hb.out) i rl[i] (List.getElem?_eq_getElem hir)
        obtain ⟨SB, sd2, he2, hrS2⟩ := (Hil2.out.below Hb.out) i rl[i] (List.getElem?_eq_getElem hir)
        obtain ⟨nb, no, hNe, hnr⟩ := (HrN1.out.below Hb.out) (fun e => by rw [e] at he1; cases he1)
        obtain ⟨mb, mo, hMe, hmr⟩ := (HrN2.out.below Hb.out) (fun e => by rw [e] at he2; cases he2)
        have c0 := hnr i _ he1
        have c1' := hmr i _ he2
        subst hNe
        subst hMe
        obtain ⟨sn, hsn⟩ : ∃ sn, sn = (rl[i]).length := ⟨_, rfl⟩
        rw [← hsn] at c0 c1'
        have Hin := Lib.hid (ints_same rl[i] sn SA SB sd sd2 wr.drew hsn.symm hrS hrS2 (by
          have h1 := Hsm.out Hf.out.1 rl[i] (List.getElem_mem hir)
          omega))
        clear he1 he2 hnr hmr hrS hrS2 hir hsn
        go_wp2_with fail
        refine wp_region_held_drew (S := fun w' => w'.cell? ⟨nb, no + i, none⟩ = some (.slice SA sn sd) ∧ w'.cell? ⟨mb, mo + i, none⟩ = some (.slice SB sn sd2)) (by kernel_rfl) ⟨c0, c1'⟩ (fun hHeld => ?_)
        (refine wpAnyH_take (i := 0) (oi := ?oi0_1) (v := ?vv0_1) ?hi0_1 (by kernel_rfl) (by kernel_rfl) (by kernel_rfl) ?hQ0_1 ?hy0_1 (by assumption) ?rest0_1; (case hi0_1 => ((simp only [List.getElem?_toArray, List.getElem?_cons_zero]); rfl)); (case hQ0_1 => exact (fun _ _ _ h => h)); (case hy0_1 => (refine Or.inl ⟨by rfl, ?_⟩; intro w hSw; (try dsimp only at hSw); go_simp; try (with_reducible rfl))); (try simp only [Act.put, List.setIfInBounds_toArray, List.set_cons_zero, List.set_cons_succ]))
        (refine wpAnyH_take (i := 1) (oi := ?oi1_2) (v := ?vv1_2) ?hi1_2 (by kernel_rfl) (by kernel_rfl) (by kernel_rfl) ?hQ1_2 ?hy1_2 (by assumption) ?rest1_2; (case hi1_2 => ((simp only [List.getElem?_toArray, List.getElem?_cons_succ, List.getElem?_cons_zero]); rfl)); (case hQ1_2 => exact (fun _ _ _ h => h)); (case hy1_2 => (refine Or.inl ⟨by rfl, ?_⟩; intro w hSw; (try dsimp only at hSw); go_simp; try (with_reducible rfl))); (try simp only [Act.put, List.setIfInBounds_toArray, List.set_cons_zero, List.set_cons_succ]))
        (refine wpAnyH_take (i := 2) (oi := ?oi2_3) (v := ?vv2_3) ?hi2_3 (by kernel_rfl) (by kernel_rfl) (by kernel_rfl) ?hQ2_3 ?hy2_3 (by assumption) ?rest2_3; (case hi2_3 => ((simp only [List.getElem?_toArray, List.getElem?_cons_succ, List.getElem?_cons_zero]); rfl)); (case hQ2_3 => exact (fun _ _ _ h => h)); (case hy2_3 => (refine Or.inl ⟨by rfl, ?_⟩; intro w hSw; (try dsimp only at hSw); go_simp; try (with_reducible rfl))); (try simp only [Act.put, List.setIfInBounds_toArray, List.set_cons_zero, List.set_cons_succ]))
        (refine wpAnyH_take (i := 3) (oi := ?oi3_4) (v := ?vv3_4) ?hi3_4 (by kernel_rfl) (by kernel_rfl) (by kernel_rfl) ?hQ3_4 ?hy3_4 (by assumption) ?rest3_4; (case hi3_4 => ((simp only [List.getElem?_toArray, List.getElem?_cons_succ, List.getElem?_cons_zero]); rfl)); (case hQ3_4 => exact (fun _ _ _ h => h)); (case hy3_4 => (refine Or.inl ⟨by rfl, ?_⟩; intro w hSw; (try dsimp only at hSw); go_simp; try (with_reducible rfl))); (try simp only [Act.put, List.setIfInBounds_toArray, List.set_cons_zero, List.set_cons_succ]))
        (refine wpAnyH_take (i := 4) (oi := ?oi4_5) (v := ?vv4_5) ?hi4_5 (by kernel_rfl) (by kernel_rfl) (by kernel_rfl) ?hQ4_5 ?hy4_5 (by assumption) ?rest4_5; (case hi4_5 => ((simp only [List.getElem?_toArray, List.getElem?_cons_succ, List.getElem?_cons_zero]); rfl)); (case hQ4_5 => exact (fun _ _ _ h => h)); (case hy4_5 => (refine Or.inl ⟨by rfl, ?_⟩; intro w hSw; (try dsimp only at hSw); go_simp; try (with_reducible rfl))); (try simp only [Act.put, List.setIfInBounds_toArray, List.set_cons_zero, List.set_cons_succ]))
        (refine wpAnyH_take (i := 5) (oi := ?oi5_6) (v := ?vv5_6) ?hi5_6 (by kernel_rfl) (by kernel_rfl) (by kernel_rfl) ?hQ5_6 ?hy5_6 (by assumption) ?rest5_6; (case hi5_6 => ((simp only [List.getElem?_toArray, List.getElem?_cons_succ, List.getElem?_cons_zero]); rfl)); (case hQ5_6 => exact (fun _ _ _ h => h)); (case hy5_6 => (refine Or.inl ⟨by rfl, ?_⟩; intro w hSw; (try dsimp only at hSw); go_simp; try (with_reducible rfl))); (try simp only [Act.put, List.setIfInBounds_toArray, List.set_cons_zero, List.set_cons_succ]))
        (refine wpAnyH_take (i := 6) (oi := ?oi6_7) (v := ?vv6_7) ?hi6_7 (by kernel_rfl) (by kernel_rfl) (by kernel_rfl) ?hQ6_7 ?hy6_7 (by assumption) ?rest6_7; (case hi6_7 => ((simp only [List.getElem?_toArray, List.getElem?_cons_succ, List.getElem?_cons_zero]); rfl)); (case hQ6_7 => exact (fun _ _ _ h => h)); (case hy6_7 => (refine Or.inl ⟨by rfl, ?_⟩; intro w hSw; (try dsimp only at hSw); go_simp; try (with_reducible rfl))); (try simp only [Act.put, List.setIfInBounds_toArray, List.set_cons_zero, List.set_cons_succ]))
        (refine wpAnyH_take (i := 7) (oi := ?oi7_8) (v := ?vv7_8) ?hi7_8 (by kernel_rfl) (by kernel_rfl) (by kernel_rfl) ?hQ7_8 ?hy7_8 (by assumption) ?rest7_8; (case hi7_8 => ((simp only [List.getElem?_toArray, List.getElem?_cons_succ, List.getElem?_cons_zero]); rfl)); (case hQ7_8 => exact (fun _ _ _ h => h)); (case hy7_8 => (refine Or.inl ⟨by rfl, ?_⟩; intro w hSw; (try dsimp only at hSw); go_simp; try (with_reducible rfl))); (try simp only [Act.put, List.setIfInBounds_toArray, List.set_cons_zero, List.set_cons_succ]))
        (refine wpAnyH_ready (rs := [8]) (by kernel_rfl) (by simp) ?_; refine AllReadyH.cons (o := ?oc8_9) ?ho8_9 (fun K hK => ?_) AllReadyH.nil; (case ho8_9 => ((simp only [List.getElem?_toArray, List.getElem?_cons_succ, List.getElem?_cons_zero]); rfl)); go_simp)
        refine Hin.out.mono ?_
        rintro e wB ⟨rfl, hbB⟩
        have hbB' : Below wr.drew.heap.size wr.drew wB := hbB
        have Hb9' := Lib.hid (Hb.out.drew.trans (hbB'.mono Hb.out.size))
        have hS2 : wB.cell? ⟨nb, no + i, none⟩ = some (.slice SA sn sd) ∧ wB.cell? ⟨mb, mo + i, none⟩ = some (.slice SB sn sd2) := ⟨cell_keep hbB' c0, cell_keep hbB' c1'⟩
        clear hbB hbB'
        go_wp2_with fail
        refine hK.out _ _ hS2 (fun hHeld2 => ?_)
        clear hK
        (try simp only [Act.put, List.setIfInBounds_toArray, List.set_cons_zero, List.set_cons_succ])
        (refine wpAnyH_take (i := 9) (oi := ?oi9_10) (v := ?vv9_10) ?hi9_10 (by kernel_rfl) (by kernel_rfl) (by kernel_rfl) ?hQ9_10 ?hy9_10 (by assumption) ?rest9_10; (case hi9_10 => ((simp only [List.getElem?_toArray, List.getElem?_cons_succ, List.getElem?_cons_zero]); rfl)); (case hQ9_10 => exact (fun _ _ _ h => h)); (case hy9_10 => (refine Or.inl ⟨by rfl, ?_⟩; intro w hSw; (try dsimp only at hSw); go_simp; try (with_reducible rfl))); (try simp only [Act.put, List.setIfInBounds_toArray, List.set_cons_zero, List.set_cons_succ]))
        refine wpAnyH_done (by kernel_rfl) ?_ _
        clear hHeld hHeld2
        go_wp2_with fail
        go_roundw
        case rel => exact ⟨i + 1, by go_num, by omega, Hb9'⟩
        case measure => simp [intOf]; omega
      · obtain rfl : i = rn := by omega
        have Hfin := Lib.hid (HbA.out.trans (Hb.out.mono HbA.out.size))
        go_wp2_with fail
        go_ret
        exact ⟨rfl, Hfin.out⟩
end Go.Proofs.YtheafcfbahdcfaaDoor
