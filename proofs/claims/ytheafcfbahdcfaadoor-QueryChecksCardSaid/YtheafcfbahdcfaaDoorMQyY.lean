/- Walks: the columns that a query needs of each table: the program's. (Printed by gen_qyy.py.) -/
import Derived.Test.YtheafcfbahdcfaaDoorMQyX
import Derived.Test.YtheafcfbahdcfaaDoorMGrJ
import Derived.Test.YtheafcfbahdcfaaDoorMGrV
import Derived.Test.YtheafcfbahdcfaaDoorMAcW
namespace Go.Proofs.YtheafcfbahdcfaaDoor
set_option linter.unusedVariables false
set_option linter.unusedSimpArgs false
open Go.RowKit

attribute [local go_sem ↓] Go.wp_at_zero Go.wp_at_succ

theorem sort_any (l : List Int) (A : Option Addr) (n c B : Nat) (w : World) (h : Own w B 3 1 A n c (icl l)) (hn : n ≤ 1000000) :
    Calls Tryd.prog 37 #[.slice A n c] w fun e w' => e = .returned (.tuple #[]) ∧ Own w' B 3 1 A n c (icl (sortI l)) ∧ w.grownBy w' (Value.slice A n c).ownBlock := by
  rcases h.lies with ⟨rfl, rfl, rfl, hx⟩ | ⟨g, _, rfl, _⟩
  · refine (Tryd.slices_Sort_int_none none 0 w).mono ?_
    rintro e w' ⟨rfl, rfl⟩
    have hl : l = [] := by
      unfold icl at hx
      exact List.map_eq_nil_iff.1 hx
    subst hl
    refine ⟨rfl, ?_, World.grownBy.refl _ _⟩
    have : sortI [] = [] := List.eq_nil_of_length_eq_zero (sortI_len [])
    rw [this]
    exact h
  · exact sort_own l g n c B w h hn
theorem compact_any (l : List Int) (A : Option Addr) (n c B : Nat) (w : World) (h : Own w B 3 1 A n c (icl l)) (hn : n ≤ 1000000) :
    Calls Tryd.prog 38 #[.slice A n c] w fun e w' => e = .returned (.slice A (Lib.compact l).length c) ∧ Own w' B 3 1 A (Lib.compact l).length c (icl (Lib.compact l)) ∧ w.grownBy w' (Value.slice A n c).ownBlock := by
  rcases h.lies with ⟨rfl, rfl, rfl, hx⟩ | ⟨g, _, rfl, _⟩
  · have hl : l = [] := by
      unfold icl at hx
      exact List.map_eq_nil_iff.1 hx
    subst hl
    have hc : Lib.compact ([] : List Int) = [] := List.eq_nil_of_length_eq_zero (Nat.le_zero.1 (Lib.compact_length_le []))
    rw [hc]
    refine (Tryd.slices_Compact_int_empty none 0 w).mono ?_
    rintro e w' ⟨rfl, rfl⟩
    exact ⟨rfl, h, World.grownBy.refl _ _⟩
  · exact compact_own l g n c B w h hn

theorem Eints : ElemT Tryd.prog 40 25 1 24 (.slice none 0 0) := ElemT.mk' (by kernel_rfl) (by kernel_rfl) rfl (by omega)
/-- Lists of numbers that live through Keeps. -/
def ILs (T : List TypeId) (B : Nat) (w : World) (hs : List Value) (ls : List (List Int)) : Prop :=
  ∀ (i : Nat) (l : List Int), ls[i]? = some l → ∃ A c, hs[i]? = some (.slice A l.length c) ∧ Rs T B w A (icl l)
theorem ILs.keeps {T : List TypeId} {B : Nat} {w w' : World} {hs : List Value} {ls : List (List Int)} (h : ILs T B w hs ls) (hk : Keeps T B w w') : ILs T B w' hs ls := fun i l hi => by
  obtain ⟨A, c, h1, h2⟩ := h i l hi
  exact ⟨A, c, h1, h2.keeps hk⟩
theorem ILs.snoc {T : List TypeId} {B : Nat} {w : World} {hs : List Value} {ls : List (List Int)} (h : ILs T B w hs ls) (hl : hs.length = ls.length) {A : Option Addr} {n c : Nat} {l : List Int} (hn : l.length = n) (hr : Rs T B w A (icl l)) : ILs T B w (hs ++ [.slice A n c]) (ls ++ [l]) := fun i x hi => by
  by_cases e : i < ls.length
  · rw [List.getElem?_append_left e] at hi
    obtain ⟨A', c', h1, h2⟩ := h i x hi
    exact ⟨A', c', by rw [List.getElem?_append_left (by omega)]; exact h1, h2⟩
  · have hlt := (List.getElem?_eq_some_iff.1 hi).1
    rw [List.length_append] at hlt
    have : i = ls.length := by simp at hlt; omega
    subst this
    rw [List.getElem?_append_right (Nat.le_refl _), Nat.sub_self] at hi
    obtain rfl := Option.some.inj hi
    exact ⟨A, c, by rw [List.getElem?_append_right (by omega), hl, Nat.sub_self, ← hn]; rfl, hr⟩
theorem ILs.lists {T : List TypeId} {B : Nat} {w : World} {hs : List Value} {ls : List (List Int)} (h : ILs T B w hs ls) : ILists w hs ls := fun i l hi => by
  obtain ⟨A, c, h1, h2⟩ := h i l hi
  exact ⟨A, c, h1, h2.rd⟩

set_option maxHeartbeats 32000000 in
set_option maxRecDepth 100000 in
theorem needs_any (l : List Th) (L : Option Addr) (n c : Nat) (q : Qy) (a1 : Option Addr) (n1 c1 : Nat) (a2 : Option Addr) (n2 c2 : Nat) (a3 : Option Addr) (n3 c3 : Nat) (a4 : Option Addr) (n4 c4 : Nat) (a5 : Option Addr) (n5 c5 : Nat) (a6 : Option Addr) (n6 c6 : Nat) (w : World) (hl : l.length = n) (hL : Tin w L l) (hf : FewT (l.map Th.t)) (hq : Qi w q a1 n1 a2 n2 a3 n3 a4 n4 a5 n5 a6 n6) (hqf : q.Few) (hc3 : n3 ≤ c3 ∧ c3 ≤ maxLen) :
    Calls Tryd.prog 16 #[.slice L n c, .agg #[.string (St8 q.frm), .slice a1 n1 c1, .slice a2 n2 c2, .slice a3 n3 c3, .slice a4 n4 c4, .slice a5 n5 c5, .slice a6 n6 c6]] w fun e w' => (∃ A hs d, e = .returned (.tuple #[.slice A (needsM (l.map Th.t) q).1.length d, .int .i64 (needsM (l.map Th.t) q).2]) ∧ hs.length = (needsM (l.map Th.t) q).1.length ∧ Rd w' A hs ∧ ILists w' hs (needsM (l.map Th.t) q).1) ∧ Below w.heap.size w w' := by
  obtain ⟨lt, hlt⟩ : ∃ lt, lt = l.map Th.t := ⟨_, rfl⟩
  have Hl := Lib.hid hl
  have HL := Lib.hid (fun w' (hw : Below w.heap.size w w') => hL.below hw)
  have HQ := Lib.hid (fun w' (hw : Below w.heap.size w w') => hq.below hw)
  have Hck := Lib.hid (fun w' (hw : Below w.heap.size w w') => qcheck_any l L n c q a1 n1 c1 a2 n2 c2 a3 n3 c3 a4 n4 c4 a5 n5 c5 a6 n6 c6 w' hl (hL.below hw) hf (hq.below hw) hqf hc3)
  have Hjd := Lib.hid (fun w' (hw : Below w.heap.size w w') => joined_any l L n c q a1 n1 c1 a2 n2 c2 a3 n3 c3 a4 n4 c4 a5 n5 c5 a6 n6 c6 w' hl (hL.below hw) hf (hq.below hw) hqf)
  rw [← hlt] at Hck Hjd hf ⊢
  have Hlt := Lib.hid hlt
  have hn12 := hf.len
  rw [hlt, List.length_map, hl] at hn12
  have hn1 := hqf.joins
  have hn2 := hqf.asked
  have hn3 := hqf.by_
  have hn4 := hqf.aggs
  have hn5 := hqf.want
  rw [hq.l1] at hn1
  rw [hq.l2] at hn2
  rw [hq.l3] at hn3
  rw [hq.l4] at hn4
  rw [hq.l5] at hn5
  obtain ⟨P, hP⟩ : ∃ P, P = joinedP lt q := ⟨_, rfl⟩
  obtain ⟨ks, hks⟩ : ∃ ks, ks = ktabs lt q := ⟨_, rfl⟩
  have hksP : ks = P.map (tabK lt) := by rw [hks, hP]; rfl
  obtain ⟨E, hE⟩ : ∃ E, E = joinedE lt q := ⟨_, rfl⟩
  rw [← hP, ← hE, ← hksP] at Hjd
  have hklP : ks.length = P.length := by rw [hksP, List.length_map]
  have hkfl : ks.flatten.length ≤ 160 := by
    have h1 := tabs_le hf.kinds P
    rw [← hksP] at h1
    have h2 := joinedP_le lt q
    rw [← hP, hq.l1] at h2
    omega
  obtain ⟨C, hC⟩ : ∃ C, C = checkM lt q := ⟨_, rfl⟩
  rw [← hC] at Hck
  obtain ⟨R, hR⟩ : ∃ R, R = needsM lt q := ⟨_, rfl⟩
  rw [← hR]
  have HRa : Hid (¬ C.2 = 0 → R = ([], C.2)) := Lib.hid fun h => by
    rw [hR, hC]
    rw [hC] at h
    unfold needsM
    rw [if_pos h]
  obtain ⟨all, hall⟩ : ∃ all, all = allCols ks q := ⟨_, rfl⟩
  have HRb : Hid (C.2 = 0 → R = (needsF all 0 ks, 0)) := Lib.hid fun h => by
    rw [hC] at h
    rw [hR, hall, hks]
    unfold needsM
    rw [if_neg (fun h2 => h2 h)]
  have HEz : Hid (C.2 = 0 → E = 0 ∧ ks.length = n1 + 1 ∧ ∀ i (hi : i < q.joins.length), 0 ≤ (q.joins[i]).right ∧ (q.joins[i]).right ≤ 160) := Lib.hid fun h => by
    rw [hC] at h
    obtain ⟨h1, h2⟩ := checkM_zero h
    have h3 : ks.length = q.joins.length + 1 := by rw [hklP, hP, joinedP_len h1]
    rw [← hks] at h2
    refine ⟨by rw [hE]; exact h1, by rw [h3, hq.l1], fun i hi => ?_⟩
    obtain ⟨h4, h5⟩ := joinsM_right h3 h2 i hi
    have h6 := preL_succ (ks := ks) (j := i + 1) (by omega)
    have h7 := preL_le ks (i + 1 + 1)
    exact ⟨h4, by omega⟩
  have HPl : Hid (∀ k ∈ P, k < l.length) := Lib.hid fun k hk => by
    rw [hP] at hk
    have := joinedP_lt hk
    rwa [hlt, List.length_map] at this
  have Hkk := Lib.hid hf.kinds
  have HksP := Lib.hid hksP
  have Hall : Hid (all = (((colsR q.asked ++ (q.by_ ++ (q.want ++ []))) ++ (q.aggs.filter fun a => decide (a.op ≠ 1)).map Ag.col) ++ joinCols 0 ks q.joins)) := by
    show _ = _
    rw [hall]
    unfold allCols
    rw [List.append_nil, ← List.append_assoc]
  have Hcl := Lib.hid (colsR_len q.asked)
  obtain ⟨pn, hpl⟩ : ∃ pn, P.length = pn := ⟨_, rfl⟩
  have hpm : pn ≤ 13 := by
    rw [← hpl, hP]
    have h2 := joinedP_le lt q
    rw [hq.l1] at h2
    omega
  rw [hpl] at Hjd hklP
  have Hpl := Lib.hid hpl
  have HklP := Lib.hid hklP
  obtain ⟨wb, hwb⟩ : ∃ x, x = w.alloc (.cells #[.string (St8 q.frm), .slice a1 n1 c1, .slice a2 n2 c2, .slice a3 n3 c3, .slice a4 n4 c4, .slice a5 n5 c5, .slice a6 n6 c6] 29) := ⟨_, rfl⟩
  have Hbb : Hid (Below w.heap.size w wb) := by
    show Below _ _ _
    rw [hwb]
    exact (Below.refl _ _).alloc (Nat.le_refl _) _
  have hbx : Blk wb w.heap.size 29 (#[.string (St8 q.frm), .slice a1 n1 c1, .slice a2 n2 c2, .slice a3 n3 c3, .slice a4 n4 c4, .slice a5 n5 c5, .slice a6 n6 c6]).toList := by
    rw [hwb]
    exact Blk.new w _ _
  have Hce := Lib.hid (fun w' (hw : Below wb.heap.size wb w') => (⟨(hbx.below hw).cell 0, (hbx.below hw).cell 1, (hbx.below hw).cell 2, (hbx.below hw).cell 3, (hbx.below hw).cell 4, (hbx.below hw).cell 5, (hbx.below hw).cell 6⟩ : w'.cell? ⟨w.heap.size, 0, none⟩ = some (.string (St8 q.frm)) ∧ w'.cell? ⟨w.heap.size, 1, none⟩ = some (.slice a1 n1 c1) ∧ w'.cell? ⟨w.heap.size, 2, none⟩ = some (.slice a2 n2 c2) ∧ w'.cell? ⟨w.heap.size, 3, none⟩ = some (.slice a3 n3 c3) ∧ w'.cell? ⟨w.heap.size, 4, none⟩ = some (.slice a4 n4 c4) ∧ w'.cell? ⟨w.heap.size, 5, none⟩ = some (.slice a5 n5 c5) ∧ w'.cell? ⟨w.heap.size, 6, none⟩ = some (.slice a6 n6 c6)))
  clear hlt hl hL hf hq hqf hP hE hks hksP hR hklP hpl hbx hc3 hC hall
  go_enter Tryd.func16, Tryd.ntmps16
  go_wp2_with fail
  rw [← hwb]
  refine (Hck.out wb Hbb.out).mono ?_
  rintro e w1 ⟨⟨A0, d0, rfl, -⟩, hb1⟩
  have Hw1 := Lib.hid hb1
  have Hb1 := Lib.hid (Hbb.out.trans (hb1.mono Hbb.out.size))
  obtain ⟨cl, ce⟩ := C
  dsimp only at HRa HRb HEz
  clear Hck hb1 hwb
  by_cases hce : ce = 0
  · obtain ⟨rfl, hkl, hri⟩ := HEz.out hce
    have HR1 := Lib.hid (HRb.out hce)
    have Hkl := Lib.hid hkl
    have Hri := Lib.hid hri
    subst hce
    clear HRa HRb HEz hkl hri
    obtain ⟨k0, k1, k2, k3, k4, k5, k6⟩ := Hce.out w1 Hw1.out
    go_wp2_with fail
    refine (Hjd.out w1 Hb1.out).mono ?_
    rintro e w2 ⟨⟨PA, F, dp, df, rfl, hoP, hoF⟩, hb2⟩
    have Hw2 := Lib.hid (Hw1.out.trans (hb2.mono Hw1.out.size))
    have Hb2 := Lib.hid (Hb1.out.trans (hb2.mono Hb1.out.size))
    have HP2 := Lib.hid hoP.rd
    have HF2 := Lib.hid hoF.rd
    clear Hjd hb2 hoP hoF k0 k1 k2 k3 k4 k5 k6
    obtain ⟨k0, k1, k2, k3, k4, k5, k6⟩ := Hce.out w2 Hw2.out
    go_wp2_with fail
    refine wp_region_held_drew (S := fun w' => w'.cell? ⟨w.heap.size, 2, none⟩ = some (.slice a2 n2 c2) ∧ w'.cell? ⟨w.heap.size, 3, none⟩ = some (.slice a3 n3 c3) ∧ w'.cell? ⟨w.heap.size, 5, none⟩ = some (.slice a5 n5 c5)) (by kernel_rfl) ⟨k2, k3, k5⟩ (fun hHeld => ?_)
    (refine wpAnyH_take (i := 0) (oi := ?oi0_1) (v := ?vv0_1) ?hi0_1 (by kernel_rfl) (by kernel_rfl) (by kernel_rfl) ?hQ0_1 ?hy0_1 (by assumption) ?rest0_1; (case hi0_1 => ((simp only [List.getElem?_toArray, List.getElem?_cons_zero]); rfl)); (case hQ0_1 => exact (fun _ _ _ h => h)); (case hy0_1 => (refine Or.inl ⟨by rfl, ?_⟩; intro w hSw; (try dsimp only at hSw); go_simp; try (with_reducible rfl))); (try simp only [Act.put, List.setIfInBounds_toArray, List.set_cons_zero, List.set_cons_succ]))
    (refine wpAnyH_take (i := 1) (oi := ?oi1_2) (v := ?vv1_2) ?hi1_2 (by kernel_rfl) (by kernel_rfl) (by kernel_rfl) ?hQ1_2 ?hy1_2 (by assumption) ?rest1_2; (case hi1_2 => ((simp only [List.getElem?_toArray, List.getElem?_cons_succ, List.getElem?_cons_zero]); rfl)); (case hQ1_2 => exact (fun _ _ _ h => h)); (case hy1_2 => (refine Or.inl ⟨by rfl, ?_⟩; intro w hSw; (try dsimp only at hSw); go_simp; try (with_reducible rfl))); (try simp only [Act.put, List.setIfInBounds_toArray, List.set_cons_zero, List.set_cons_succ]))
    (refine wpAnyH_take (i := 3) (oi := ?oi3_3) (v := ?vv3_3) ?hi3_3 (by kernel_rfl) (by kernel_rfl) (by kernel_rfl) ?hQ3_3 ?hy3_3 (by assumption) ?rest3_3; (case hi3_3 => ((simp only [List.getElem?_toArray, List.getElem?_cons_succ, List.getElem?_cons_zero]); rfl)); (case hQ3_3 => exact (fun _ _ _ h => h)); (case hy3_3 => (refine Or.inl ⟨by rfl, ?_⟩; intro w hSw; (try dsimp only at hSw); go_simp; try (with_reducible rfl))); (try simp only [Act.put, List.setIfInBounds_toArray, List.set_cons_zero, List.set_cons_succ]))
    (refine wpAnyH_take (i := 4) (oi := ?oi4_4) (v := ?vv4_4) ?hi4_4 (by kernel_rfl) (by kernel_rfl) (by kernel_rfl) ?hQ4_4 ?hy4_4 (by assumption) ?rest4_4; (case hi4_4 => ((simp only [List.getElem?_toArray, List.getElem?_cons_succ, List.getElem?_cons_zero]); rfl)); (case hQ4_4 => exact (fun _ _ _ h => h)); (case hy4_4 => (refine Or.inl ⟨by rfl, ?_⟩; intro w hSw; (try dsimp only at hSw); go_simp; try (with_reducible rfl))); (try simp only [Act.put, List.setIfInBounds_toArray, List.set_cons_zero, List.set_cons_succ]))
    (refine wpAnyH_take (i := 5) (oi := ?oi5_5) (v := ?vv5_5) ?hi5_5 (by kernel_rfl) (by kernel_rfl) (by kernel_rfl) ?hQ5_5 ?hy5_5 (by assumption) ?rest5_5; (case hi5_5 => ((simp only [List.getElem?_toArray, List.getElem?_cons_succ, List.getElem?_cons_zero]); rfl)); (case hQ5_5 => exact (fun _ _ _ h => h)); (case hy5_5 => (refine Or.inl ⟨by rfl, ?_⟩; intro w hSw; (try dsimp only at hSw); go_simp; try (with_reducible rfl))); (try simp only [Act.put, List.setIfInBounds_toArray, List.set_cons_zero, List.set_cons_succ]))
    (refine wpAnyH_take (i := 6) (oi := ?oi6_6) (v := ?vv6_6) ?hi6_6 (by kernel_rfl) (by kernel_rfl) (by kernel_rfl) ?hQ6_6 ?hy6_6 (by assumption) ?rest6_6; (case hi6_6 => ((simp only [List.getElem?_toArray, List.getElem?_cons_succ, List.getElem?_cons_zero]); rfl)); (case hQ6_6 => exact (fun _ _ _ h => h)); (case hy6_6 => (refine Or.inl ⟨by rfl, ?_⟩; intro w hSw; (try dsimp only at hSw); go_simp; try (with_reducible rfl))); (try simp only [Act.put, List.setIfInBounds_toArray, List.set_cons_zero, List.set_cons_succ]))
    (refine wpAnyH_ready (rs := [2]) (by kernel_rfl) (by simp) ?_; refine AllReadyH.cons (o := ?oc2_7) ?ho2_7 (fun K hK => ?_) AllReadyH.nil; (case ho2_7 => ((simp only [List.getElem?_toArray, List.getElem?_cons_succ, List.getElem?_cons_zero]); rfl)); go_simp)
    refine (cols_c q.asked a2 n2 c2 w2.drew (HQ.out w2.drew Hb2.out.drew).l2 (HQ.out w2.drew Hb2.out.drew).r2 (by omega)).mono ?_
    rintro e w3 ⟨⟨CA, cc, rfl, hrC⟩, hb3⟩
    have hb3' : Below w2.drew.heap.size w2.drew w3 := hb3
    have Hw3 := Lib.hid (Hw2.out.drew.trans (hb3'.mono Hw2.out.size))
    have Hb3 := Lib.hid (Hb2.out.drew.trans (hb3'.mono Hb2.out.size))
    have HP3 := Lib.hid ((HP2.out.drew).below hb3')
    have HF3 := Lib.hid ((HF2.out.drew).below hb3')
    have HrC := Lib.hid hrC
    clear hb3 hb3' hrC HP2 HF2 k0 k1 k2 k3 k4 k5 k6
    go_wp2_with fail
    obtain ⟨k0, k1, k2, k3, k4, k5, k6⟩ := Hce.out w3 Hw3.out
    refine hK.out _ _ ⟨k2, k3, k5⟩ (fun hHeld2 => ?_)
    clear hK hHeld
    (try simp only [Act.put, List.setIfInBounds_toArray, List.set_cons_zero, List.set_cons_succ])
    (refine wpAnyH_ready (rs := [7]) (by kernel_rfl) (by simp) ?_; refine AllReadyH.cons (o := ?oc7_8) ?ho7_8 (fun K hK => ?_) AllReadyH.nil; (case ho7_8 => ((simp only [List.getElem?_toArray, List.getElem?_cons_succ, List.getElem?_cons_zero]); rfl)); go_simp)
    obtain ⟨w4, hw4⟩ : ∃ x, x = w3.alloc (.cells #[.slice CA (colsR q.asked).length cc, .slice a3 n3 c3, .slice a5 n5 c5] 25) := ⟨_, rfl⟩
    have hb4 : Below w3.heap.size w3 w4 := by
      rw [hw4]
      exact (Below.refl _ _).alloc (Nat.le_refl _) _
    have HRh : Hid (Rd w4 (some ⟨w3.heap.size, 0, none⟩) [.slice CA (colsR q.asked).length cc, .slice a3 n3 c3, .slice a5 n5 c5]) := by
      show Rd _ _ _
      rw [hw4]
      exact Rd.new w3 [.slice CA (colsR q.asked).length cc, .slice a3 n3 c3, .slice a5 n5 c5] 25
    have Hw4 := Lib.hid (Hw3.out.trans (hb4.mono Hw3.out.size))
    have Hb4 := Lib.hid (Hb3.out.trans (hb4.mono Hb3.out.size))
    have HP4 := Lib.hid (HP3.out.below hb4)
    have HF4 := Lib.hid (HF3.out.below hb4)
    have HrC4 := Lib.hid (HrC.out.below hb4)
    rw [← hw4]
    clear hb4 hw4 HP3 HF3 HrC k0 k1 k2 k3 k4 k5 k6
    obtain ⟨k0, k1, k2, k3, k4, k5, k6⟩ := Hce.out w4 Hw4.out
    refine hK.out _ _ ⟨k2, k3, k5⟩ (fun hHeld3 => ?_)
    clear hK hHeld2
    (try simp only [Act.put, List.setIfInBounds_toArray, List.set_cons_zero, List.set_cons_succ])
    (refine wpAnyH_ready (rs := [8]) (by kernel_rfl) (by simp) ?_; refine AllReadyH.cons (o := ?oc8_9) ?ho8_9 (fun K hK => ?_) AllReadyH.nil; (case ho8_9 => ((simp only [List.getElem?_toArray, List.getElem?_cons_succ, List.getElem?_cons_zero]); rfl)); go_simp)
    have hq4 := HQ.out w4 Hb4.out
    have hil : ILists w4 [.slice CA (colsR q.asked).length cc, .slice a3 n3 c3, .slice a5 n5 c5] [colsR q.asked, q.by_, q.want] := fun i x hi => by
      match i, hi with
      | 0, hi =>
        obtain rfl := Option.some.inj hi
        exact ⟨CA, cc, rfl, HrC4.out⟩
      | 1, hi =>
        obtain rfl := Option.some.inj hi
        exact ⟨a3, c3, by rw [hq4.l3]; rfl, hq4.r3⟩
      | 2, hi =>
        obtain rfl := Option.some.inj hi
        exact ⟨a5, c5, by rw [hq4.l5]; rfl, hq4.r5⟩
      | i + 3, hi => cases hi
    have hTb : [colsR q.asked, q.by_, q.want].flatten.length ≤ 100 := by
      have h1 := Hcl.out
      rw [hq4.l2] at h1
      have h2 := hq4.l3
      have h3 := hq4.l5
      show (colsR q.asked ++ (q.by_ ++ (q.want ++ []))).length ≤ 100
      rw [List.length_append, List.length_append, List.length_append, List.length_nil]
      omega
    obtain ⟨T0, hT0⟩ : ∃ T0, [colsR q.asked, q.by_, q.want].flatten.length = T0 := ⟨_, rfl⟩
    rw [hT0] at hTb
    refine (concatI_any [colsR q.asked, q.by_, q.want] _ 3 3 T0 _ w4 rfl HRh.out hil hT0 (by omega) (by omega)).mono ?_
    rintro e w5 ⟨XA, xc, rfl, hoX, hb5⟩
    have Hb5 := Lib.hid hb5
    have HoX : Hid (Own w5 w4.heap.size 3 1 XA T0 xc (icl ((colsR q.asked ++ (q.by_ ++ (q.want ++ []))) ++ ((q.aggs.take 0).filter fun a => decide (a.op ≠ 1)).map Ag.col))) := by
      show Own _ _ _ _ _ _ _ _
      rw [List.take_zero, List.filter_nil, List.map_nil, List.append_nil]
      exact hoX
    clear hb5 hoX hq4 hil hT0 HRh HrC4 k0 k1 k2 k3 k4 k5 k6
    go_wp2_with fail
    obtain ⟨k0, k1, k2, k3, k4, k5, k6⟩ := Hce.out w5 (Hw4.out.trans (Hb5.out.mono Hw4.out.size))
    refine hK.out _ _ ⟨k2, k3, k5⟩ (fun hHeld4 => ?_)
    clear hK hHeld3
    (try simp only [Act.put, List.setIfInBounds_toArray, List.set_cons_zero, List.set_cons_succ])
    (refine wpAnyH_take (i := 9) (oi := ?oi9_10) (v := ?vv9_10) ?hi9_10 (by kernel_rfl) (by kernel_rfl) (by kernel_rfl) ?hQ9_10 ?hy9_10 (by assumption) ?rest9_10; (case hi9_10 => ((simp only [List.getElem?_toArray, List.getElem?_cons_succ, List.getElem?_cons_zero]); rfl)); (case hQ9_10 => exact (fun _ _ _ h => h)); (case hy9_10 => (refine Or.inl ⟨by rfl, ?_⟩; intro w hSw; (try dsimp only at hSw); go_simp; try (with_reducible rfl))); (try simp only [Act.put, List.setIfInBounds_toArray, List.set_cons_zero, List.set_cons_succ]))
    refine wpAnyH_done (by kernel_rfl) ?_ _
    clear hHeld4
    generalize colsR q.asked ++ (q.by_ ++ (q.want ++ [])) = X0 at *
    go_wp2_with fail
    go_loopw [11, 50] (fun vx vi wr => ∃ (j m : Nat) (A : Option Addr) (d : Nat), vx = .slice A m d ∧ vi = .int .i64 j ∧ j ≤ n4 ∧ m ≤ 100 + j ∧ Hid (Own wr w4.heap.size 3 1 A m d (icl (X0 ++ ((q.aggs.take j).filter fun a => decide (a.op ≠ 1)).map Ag.col))) ∧ Hid (Below w4.heap.size w4 wr)) (fun _ vi _ => n4 - (intOf vi).toNat)
    case atStart => exact ⟨0, T0, XA, xc, rfl, rfl, by omega, by omega, HoX, Hb5⟩
    case round =>
      obtain ⟨j, m, A, d, rfl, rfl, hj, hm, Ho, Hb⟩ := hrel
      by_cases hjn : j < n4
      · have hjI : (j : Int) < (n4 : Int) := by omega
        have hjI0 : (0 : Int) ≤ (j : Int) := by omega
        have hq4 := HQ.out wr (Hb4.out.trans (Hb.out.mono Hb4.out.size))
        have hjl : j < q.aggs.length := by rw [hq4.l4]; exact hjn
        obtain ⟨b, o, hLe, c0, c1'⟩ := hq4.r4.ag hjl
        have hts := List.take_succ_eq_append_getElem hjl
        have Hts := Lib.hid hts
        clear hts hq4
        subst hLe
        generalize q.aggs[j] = x at *
        obtain ⟨op, col⟩ := x
        dsimp only at c0 c1'
        clear hjl
        by_cases hop : op = 1
        · subst hop
          have hba : Below wr.heap.size wr (wr.alloc (.cells #[.int .u8 1, .int .i64 col] 65)) := (Below.refl _ _).alloc (Nat.le_refl _) _
          have Hb9 := Lib.hid (Hb.out.trans (hba.mono Hb.out.size))
          have Ho9 : Hid (Own (wr.alloc (.cells #[.int .u8 1, .int .i64 col] 65)) w4.heap.size 3 1 A m d (icl (X0 ++ ((q.aggs.take (j + 1)).filter fun a => decide (a.op ≠ 1)).map Ag.col))) := by
            show Own _ _ _ _ _ _ _ _
            rw [Hts.out, List.filter_append, List.filter_cons_of_neg (by simp), List.filter_nil, List.append_nil]
            exact Ho.out.below hba
          clear hba
          go_wp2_with fail
          go_roundw
          case rel => exact ⟨j + 1, m, A, d, rfl, by go_num, by omega, by omega, Ho9, Hb9⟩
          case measure => simp [intOf]; omega
        · have e1 : (op == 1) = false := by rw [beq_eq_false_iff_ne]; exact hop
          have e2 : (op != 1) = true := by simpa using hop
          have hbA : Below wr.heap.size wr ((wr.alloc (.cells #[.int .u8 op, .int .i64 col] 65)).alloc (.cells #[.int .i64 col] 3)) := ((Below.refl _ _).alloc (Nat.le_refl _) _).alloc (by simp) _
          have ho3 := Ho.out.below hbA
          have hb3 := Hb.out.trans (hbA.mono Hb.out.size)
          have hz3 := hb3.size
          have hnew := two_new wr (.cells #[.int .u8 op, .int .i64 col] 65) 3 (.int .i64 col)
          have Hys : Hid (icl (X0 ++ ((q.aggs.take j).filter fun a => decide (a.op ≠ 1)).map Ag.col) ++ [.int .i64 col] = icl (X0 ++ ((q.aggs.take (j + 1)).filter fun a => decide (a.op ≠ 1)).map Ag.col)) := by
            show _ = _
            rw [← icl_snoc, Hts.out, List.filter_append, List.filter_cons_of_pos (by simpa using hop), List.filter_nil, List.map_append, List.append_assoc]
            rfl
          clear hbA
          go_wp2_with (first | (at_builtin; refine hold ?_) | (at_make; refine hold ?_))
          (with_reducible refine unhold ?_)
          refine wpList_apd rfl _ _ _ rfl Eint' w4.heap.size _ m _ _ rfl ho3 _ 1 _ [.int .i64 col] rfl rfl (fun _ => ⟨_, _, rfl, hnew⟩) (by simp [Value.oneCell']) (m + 1) rfl _ Hys.out (by omega) (by omega) hz3 ?_
          intro A5 d5 w9 ho9 hg9 _
          have Hb9 := Lib.hid (hb3.grown hg9 hz3 ho3.row_ge)
          have Ho9 := Lib.hid ho9
          clear ho9 hg9 ho3 hb3 hnew hz3
          go_wp2_with fail
          go_roundw
          case rel => exact ⟨j + 1, m + 1, A5, d5, rfl, by go_num, by omega, by omega, Ho9, Hb9⟩
          case measure => simp [intOf]; omega
      · obtain rfl : j = n4 := by omega
        have htk : q.aggs.take j = q.aggs := List.take_of_length_le (by rw [(HQ.out w4 Hb4.out).l4]; exact Nat.le_refl _)
        have HoY : Hid (Own wr w4.heap.size 3 1 A m d (icl ((X0 ++ (q.aggs.filter fun a => decide (a.op ≠ 1)).map Ag.col) ++ joinCols 0 ks (q.joins.take 0)))) := by
          show Own _ _ _ _ _ _ _ _
          rw [List.take_zero, joinCols_none, List.append_nil]
          have := Ho.out
          rwa [htk] at this
        have hm1 : m ≤ 120 := by omega
        clear htk Ho HoX Hb5 k0 k1 k2 k3 k4 k5 k6
        obtain ⟨k0, k1, k2, k3, k4, k5, k6⟩ := Hce.out wr (Hw4.out.trans (Hb.out.mono Hw4.out.size))
        generalize X0 ++ (q.aggs.filter fun a => decide (a.op ≠ 1)).map Ag.col = X1 at *
        generalize wr = w6 at *
        go_wp2_with fail
        go_loopw [11, 66] (fun vx vi wr => ∃ (j m : Nat) (A : Option Addr) (d : Nat), vx = .slice A m d ∧ vi = .int .i64 j ∧ j ≤ n1 ∧ m ≤ 120 + 2 * j ∧ Hid (Own wr w4.heap.size 3 1 A m d (icl (X1 ++ joinCols 0 ks (q.joins.take j)))) ∧ Hid (Below w4.heap.size w4 wr)) (fun _ vi _ => n1 - (intOf vi).toNat)
        case atStart => exact ⟨0, m, A, d, rfl, rfl, by omega, by omega, HoY, Hb⟩
        case round =>
          obtain ⟨i, m2, A2, d2, rfl, rfl, hi, hm2, Ho, Hb2⟩ := hrel
          by_cases hin : i < n1
          · have hiI : (i : Int) < (n1 : Int) := by omega
            have hiI0 : (0 : Int) ≤ (i : Int) := by omega
            have hBw := Hb4.out.trans (Hb2.out.mono Hb4.out.size)
            have hq4 := HQ.out wr hBw
            have hil : i < q.joins.length := by rw [hq4.l1]; exact hin
            obtain ⟨b, o, hLe, c0, c1', c2'⟩ := hq4.r1.jn hil
            obtain ⟨hr0, hr1⟩ := Hri.out i hil
            have hsn := joinCols_snoc ks q.joins 0 i hil (by rw [Hkl.out]; omega)
            have hpre := preL_le ks (i + 1)
            obtain ⟨fb, fo, hFe, -⟩ := HF4.out.nat (offs_get ks 0 (i + 1) (by rw [Hkl.out]; omega))
            subst hFe
            subst hLe
            generalize q.joins[i] = x at *
            obtain ⟨tn, lf, rg⟩ := x
            dsimp only at c0 c1' c2' hr0 hr1 hsn
            obtain ⟨rN, rfl⟩ := Int.eq_ofNat_of_zero_le hr0
            have hbA : Below wr.heap.size wr (wr.alloc (.cells #[.string (St8 tn), .int .i64 lf, .int .i64 (rN : Int)] 46)) := (Below.refl _ _).alloc (Nat.le_refl _) _
            have hb7 := Hb2.out.trans (hbA.mono Hb2.out.size)
            have ho7 := Ho.out.below hbA
            have hjb := Blk.new wr 46 #[.string (St8 tn), .int .i64 lf, .int .i64 (rN : Int)]
            obtain ⟨w7, hw7⟩ : ∃ x, x = wr.alloc (.cells #[.string (St8 tn), .int .i64 lf, .int .i64 (rN : Int)] 46) := ⟨_, rfl⟩
            rw [← hw7] at hbA hb7 ho7 hjb
            generalize hp1 : preL ks (i + 1) = p1 at *
            have hfc : ∀ w', Below w4.heap.size w4 w' → w'.cell? ⟨fb, fo + (i + 1), none⟩ = some (.int .i64 (p1 : Int)) := fun w' hw => by
              obtain ⟨fb1, fo1, hFe1, f3⟩ := (HF4.out.below hw).nat (offs_get ks 0 (i + 1) (by rw [Hkl.out]; omega))
              have h9 := Option.some.inj hFe1
              injection h9 with h91 h92
              subst h91
              subst h92
              rw [f3, ← hp1, Nat.zero_add]
              rfl
            have hsum : IntKind.i64.wrap ((p1 : Int) + (rN : Int)) = ((p1 + rN : Nat) : Int) := by rw [IntKind.wrap_i64]; omega
            have hi1 : IntKind.i64.wrap ((i : Int) + 1) = ((i + 1 : Nat) : Int) := by rw [IntKind.wrap_i64]; omega
            have hi1a : ((i + 1 : Nat) : Int) < (pn : Int) := by have h1 := Hkl.out; rw [HklP.out] at h1; omega
            have hi1b : (0 : Int) ≤ ((i + 1 : Nat) : Int) := by omega
            have hi1c : (i : Int) + 1 < (pn : Int) := by omega
            have hi1d : (0 : Int) ≤ (i : Int) + 1 := by omega
            have Hys : Hid (icl (X1 ++ joinCols 0 ks (q.joins.take i)) ++ [.int .i64 lf, .int .i64 ((p1 + rN : Nat) : Int)] = icl (X1 ++ joinCols 0 ks (q.joins.take (i + 1)))) := by
              show icl _ ++ icl [lf, ((p1 + rN : Nat) : Int)] = _
              rw [← icl_append, hsn, ← List.append_assoc, show (ks.take (i + 1)).flatten.length = p1 from hp1, Nat.zero_add, Int.natCast_add]
            have Hfc := Lib.hid hfc
            have Hjb := Lib.hid hjb
            have Hb7 := Lib.hid hb7
            have Ho7 := Lib.hid ho7
            have j1 := hjb.cell 1
            have j2 := hjb.cell 2
            simp only [List.getElem?_cons_succ, List.getElem?_cons_zero] at j1 j2
            have f1 := hfc w7 hb7
            obtain ⟨s1, hs1⟩ : ∃ s1, s1 = p1 + rN := ⟨_, rfl⟩
            rw [← hs1] at hsum Hys
            clear hs1 hr0 hr1 hsn hpre hfc hjb hb7 ho7 hbA hp1 hil hq4 hBw
            go_wp2_with fail
            rw [← hw7]
            clear hw7
            refine wp_region_held_drew (S := fun w' => w'.cell? ⟨wr.heap.size, 1, none⟩ = some (.int .i64 lf) ∧ w'.cell? ⟨wr.heap.size, 2, none⟩ = some (.int .i64 (rN : Int)) ∧ w'.cell? ⟨fb, fo + (i + 1), none⟩ = some (.int .i64 (p1 : Int))) (by kernel_rfl) ⟨j1, j2, f1⟩ (fun hHeld => ?_)
            (refine wpAnyH_take (i := 0) (oi := ?oi0_11) (v := ?vv0_11) ?hi0_11 (by kernel_rfl) (by kernel_rfl) (by kernel_rfl) ?hQ0_11 ?hy0_11 (by assumption) ?rest0_11; (case hi0_11 => ((simp only [List.getElem?_toArray, List.getElem?_cons_zero]); rfl)); (case hQ0_11 => exact (fun _ _ _ h => h)); (case hy0_11 => (refine Or.inl ⟨by rfl, ?_⟩; intro w hSw; (try dsimp only at hSw); go_simp; try (with_reducible rfl))); (try simp only [Act.put, List.setIfInBounds_toArray, List.set_cons_zero, List.set_cons_succ]))
            (refine wpAnyH_take (i := 1) (oi := ?oi1_12) (v := ?vv1_12) ?hi1_12 (by kernel_rfl) (by kernel_rfl) (by kernel_rfl) ?hQ1_12 ?hy1_12 (by assumption) ?rest1_12; (case hi1_12 => ((simp only [List.getElem?_toArray, List.getElem?_cons_succ, List.getElem?_cons_zero]); rfl)); (case hQ1_12 => exact (fun _ _ _ h => h)); (case hy1_12 => (refine Or.inl ⟨by rfl, ?_⟩; intro w hSw; (try dsimp only at hSw); go_simp; try (with_reducible rfl))); (try simp only [Act.put, List.setIfInBounds_toArray, List.set_cons_zero, List.set_cons_succ]))
            (refine wpAnyH_take (i := 2) (oi := ?oi2_13) (v := ?vv2_13) ?hi2_13 (by kernel_rfl) (by kernel_rfl) (by kernel_rfl) ?hQ2_13 ?hy2_13 (by assumption) ?rest2_13; (case hi2_13 => ((simp only [List.getElem?_toArray, List.getElem?_cons_succ, List.getElem?_cons_zero]); rfl)); (case hQ2_13 => exact (fun _ _ _ h => h)); (case hy2_13 => (refine Or.inl ⟨by rfl, ?_⟩; intro w hSw; (try dsimp only at hSw); go_simp; try (with_reducible rfl))); (try simp only [Act.put, List.setIfInBounds_toArray, List.set_cons_zero, List.set_cons_succ]))
            (refine wpAnyH_take (i := 3) (oi := ?oi3_14) (v := ?vv3_14) ?hi3_14 (by kernel_rfl) (by kernel_rfl) (by kernel_rfl) ?hQ3_14 ?hy3_14 (by assumption) ?rest3_14; (case hi3_14 => ((simp only [List.getElem?_toArray, List.getElem?_cons_succ, List.getElem?_cons_zero]); rfl)); (case hQ3_14 => exact (fun _ _ _ h => h)); (case hy3_14 => (refine Or.inl ⟨by rfl, ?_⟩; intro w hSw; (try dsimp only at hSw); go_simp; try (with_reducible rfl))); (try simp only [Act.put, List.setIfInBounds_toArray, List.set_cons_zero, List.set_cons_succ]))
            (refine wpAnyH_take (i := 4) (oi := ?oi4_15) (v := ?vv4_15) ?hi4_15 (by kernel_rfl) (by kernel_rfl) (by kernel_rfl) ?hQ4_15 ?hy4_15 (by assumption) ?rest4_15; (case hi4_15 => ((simp only [List.getElem?_toArray, List.getElem?_cons_succ, List.getElem?_cons_zero]); rfl)); (case hQ4_15 => exact (fun _ _ _ h => h)); (case hy4_15 => (refine Or.inl ⟨by rfl, ?_⟩; intro w hSw; (try dsimp only at hSw); go_simp; try (with_reducible rfl))); (try simp only [Act.put, List.setIfInBounds_toArray, List.set_cons_zero, List.set_cons_succ]))
            (refine wpAnyH_take (i := 5) (oi := ?oi5_16) (v := ?vv5_16) ?hi5_16 (by kernel_rfl) (by kernel_rfl) (by kernel_rfl) ?hQ5_16 ?hy5_16 (by assumption) ?rest5_16; (case hi5_16 => ((simp only [List.getElem?_toArray, List.getElem?_cons_succ, List.getElem?_cons_zero]); rfl)); (case hQ5_16 => exact (fun _ _ _ h => h)); (case hy5_16 => (refine Or.inl ⟨by rfl, ?_⟩; intro w hSw; (try dsimp only at hSw); go_simp; try (with_reducible rfl))); (try simp only [Act.put, List.setIfInBounds_toArray, List.set_cons_zero, List.set_cons_succ]))
            (refine wpAnyH_take (i := 6) (oi := ?oi6_17) (v := ?vv6_17) ?hi6_17 (by kernel_rfl) (by kernel_rfl) (by kernel_rfl) ?hQ6_17 ?hy6_17 (by assumption) ?rest6_17; (case hi6_17 => ((simp only [List.getElem?_toArray, List.getElem?_cons_succ, List.getElem?_cons_zero]); rfl)); (case hQ6_17 => exact (fun _ _ _ h => h)); (case hy6_17 => (refine Or.inl ⟨by rfl, ?_⟩; intro w hSw; (try dsimp only at hSw); go_simp; try (with_reducible rfl))); (try simp only [Act.put, List.setIfInBounds_toArray, List.set_cons_zero, List.set_cons_succ]))
            (refine wpAnyH_take (i := 7) (oi := ?oi7_18) (v := ?vv7_18) ?hi7_18 (by kernel_rfl) (by kernel_rfl) (by kernel_rfl) ?hQ7_18 ?hy7_18 (by assumption) ?rest7_18; (case hi7_18 => ((simp only [List.getElem?_toArray, List.getElem?_cons_succ, List.getElem?_cons_zero]); rfl)); (case hQ7_18 => exact (fun _ _ _ h => h)); (case hy7_18 => (refine Or.inl ⟨by rfl, ?_⟩; intro w hSw; (try dsimp only at hSw); go_simp; try (with_reducible rfl))); (try simp only [Act.put, List.setIfInBounds_toArray, List.set_cons_zero, List.set_cons_succ]))
            (refine wpAnyH_take (i := 8) (oi := ?oi8_19) (v := ?vv8_19) ?hi8_19 (by kernel_rfl) (by kernel_rfl) (by kernel_rfl) ?hQ8_19 ?hy8_19 (by assumption) ?rest8_19; (case hi8_19 => ((simp only [List.getElem?_toArray, List.getElem?_cons_succ, List.getElem?_cons_zero]); rfl)); (case hQ8_19 => exact (fun _ _ _ h => h)); (case hy8_19 => (refine Or.inl ⟨by rfl, ?_⟩; intro w hSw; (try dsimp only at hSw); go_simp; try (with_reducible rfl))); (try simp only [Act.put, List.setIfInBounds_toArray, List.set_cons_zero, List.set_cons_succ]))
            (refine wpAnyH_take (i := 9) (oi := ?oi9_20) (v := ?vv9_20) ?hi9_20 (by kernel_rfl) (by kernel_rfl) (by kernel_rfl) ?hQ9_20 ?hy9_20 (by assumption) ?rest9_20; (case hi9_20 => ((simp only [List.getElem?_toArray, List.getElem?_cons_succ, List.getElem?_cons_zero]); rfl)); (case hQ9_20 => exact (fun _ _ _ h => h)); (case hy9_20 => (refine Or.inl ⟨by rfl, ?_⟩; intro w hSw; (try dsimp only at hSw); go_simp; try (with_reducible rfl))); (try simp only [Act.put, List.setIfInBounds_toArray, List.set_cons_zero, List.set_cons_succ]))
            (refine wpAnyH_take (i := 10) (oi := ?oi10_21) (v := ?vv10_21) ?hi10_21 (by kernel_rfl) (by kernel_rfl) (by kernel_rfl) ?hQ10_21 ?hy10_21 (by assumption) ?rest10_21; (case hi10_21 => ((simp only [List.getElem?_toArray, List.getElem?_cons_succ, List.getElem?_cons_zero]); rfl)); (case hQ10_21 => exact (fun _ _ _ h => h)); (case hy10_21 => (refine Or.inl ⟨by rfl, ?_⟩; intro w hSw; (try dsimp only at hSw); go_simp; try (with_reducible rfl))); (try simp only [Act.put, List.setIfInBounds_toArray, List.set_cons_zero, List.set_cons_succ]))
            (refine wpAnyH_ready (rs := [11]) (by kernel_rfl) (by simp) ?_; refine AllReadyH.cons (o := ?oc11_22) ?ho11_22 (fun K hK => ?_) AllReadyH.nil; (case ho11_22 => ((simp only [List.getElem?_toArray, List.getElem?_cons_succ, List.getElem?_cons_zero]); rfl)); go_simp)
            have hbC : Below w7.heap.size w7.drew (w7.drew.alloc (.cells #[.int .i64 lf, .int .i64 (s1 : Int)] 3)) := Below.alloc (Below.refl w7.heap.size w7.drew) (Nat.le_refl w7.heap.size) _
            have hnew := (Blk.new w7.drew 3 #[.int .i64 lf, .int .i64 (s1 : Int)]).range
            have hb8 : Below w4.heap.size w4 (w7.drew.alloc (.cells #[.int .i64 lf, .int .i64 (s1 : Int)] 3)) := Hb7.out.drew.trans (hbC.mono Hb7.out.size)
            have hjb8 := (Hjb.out.drew).below (w := w7.drew) hbC
            refine hK.out _ _ ⟨hjb8.cell 1, hjb8.cell 2, Hfc.out _ hb8⟩ (fun hHeld2 => ?_)
            clear hK
            (try simp only [Act.put, List.setIfInBounds_toArray, List.set_cons_zero, List.set_cons_succ])
            (refine wpAnyH_ready (rs := [12]) (by kernel_rfl) (by simp) ?_; refine AllReadyH.cons (o := ?oc12_23) ?ho12_23 (fun K hK => ?_) AllReadyH.nil; (case ho12_23 => ((simp only [List.getElem?_toArray, List.getElem?_cons_succ, List.getElem?_cons_zero]); rfl)))
            have hoU : Own (w7.drew.alloc (.cells #[.int .i64 lf, .int .i64 (s1 : Int)] 3)) w4.heap.size 3 1 A2 m2 d2 (icl (X1 ++ joinCols 0 ks (q.joins.take i))) := Own.below (w := w7.drew) Ho7.out hbC
            have hzU := hb8.size
            refine step_apd rfl (.tmp 71) (.tmp 82) 25 rfl Eint' w4.heap.size A2 m2 d2 (icl (X1 ++ joinCols 0 ks (q.joins.take i))) (by simp [Act.eval]) hoU (some ⟨w7.heap.size, 0, none⟩) 2 2 [.int .i64 lf, .int .i64 (s1 : Int)] (by simp [Act.eval]) rfl (fun _ => ⟨_, _, rfl, hnew⟩) (by simp [Value.oneCell']) (m2 + 2) rfl _ Hys.out (by omega) (by omega) hzU ?_
            intro A7 d7 w10 ho10 hg10 _
            have hb10 : Below w4.heap.size w4 w10 := hb8.grown hg10 hzU hoU.row_ge
            have hjb10 := hjb8.grown hg10 (fun e => by
              rcases hoU.lies with ⟨rfl, _⟩ | ⟨k, cur, rfl, _, _, hh, _⟩
              · cases e
              · have e1 : wr.heap.size = k := by simpa [Value.ownBlock] using e
                rw [← e1] at hh
                unfold Blk at hjb8
                rw [hjb8] at hh
                injection hh with hh
                injection hh with _ e2
                exact absurd e2 (by decide))
            refine hK.out _ _ ⟨hjb10.cell 1, hjb10.cell 2, Hfc.out _ hb10⟩ (fun hHeld3 => ?_)
            clear hK hHeld2
            (try simp only [Act.put, List.setIfInBounds_toArray, List.set_cons_zero, List.set_cons_succ])
            (refine wpAnyH_take (i := 13) (oi := ?oi13_24) (v := ?vv13_24) ?hi13_24 (by kernel_rfl) (by kernel_rfl) (by kernel_rfl) ?hQ13_24 ?hy13_24 (by assumption) ?rest13_24; (case hi13_24 => ((simp only [List.getElem?_toArray, List.getElem?_cons_succ, List.getElem?_cons_zero]); rfl)); (case hQ13_24 => exact (fun _ _ _ h => h)); (case hy13_24 => (refine Or.inl ⟨by rfl, ?_⟩; intro w hSw; (try dsimp only at hSw); go_simp; try (with_reducible rfl))); (try simp only [Act.put, List.setIfInBounds_toArray, List.set_cons_zero, List.set_cons_succ]))
            refine wpAnyH_done (by kernel_rfl) ?_ _
            have Ho10 := Lib.hid ho10
            have Hb10 := Lib.hid hb10
            clear hHeld hHeld3 ho10 hb10 hjb10 hg10 hoU hnew hbC hb8 hjb8 hzU
            go_wp2_with fail
            go_roundw
            case rel => exact ⟨i + 1, m2 + 2, A7, d7, rfl, by go_num, by omega, by omega, Ho10, Hb10⟩
            case measure => simp [intOf]; omega
          · obtain rfl : i = n1 := by omega
            have htk : q.joins.take i = q.joins := List.take_of_length_le (by rw [(HQ.out w4 Hb4.out).l1]; exact Nat.le_refl _)
            have ho := Ho.out
            rw [htk, ← Hall.out] at ho
            have hso := sort_any all A2 m2 d2 w4.heap.size wr ho (by omega)
            have hco := fun w' (h : Own w' w4.heap.size 3 1 A2 m2 d2 (icl (sortI all))) => compact_any (sortI all) A2 m2 d2 w4.heap.size w' h (by omega)
            have Hsl : Hid ((Lib.compact (sortI all)).length ≤ 160) := by
              show _ ≤ _
              have h1 := Lib.compact_length_le (sortI all)
              rw [sortI_len] at h1
              have h2 := ho.1
              rw [icl_len, Nat.mul_one] at h2
              omega
            obtain ⟨S, hS⟩ : ∃ S, S = Lib.compact (sortI all) := ⟨_, rfl⟩
            rw [← hS] at hco Hsl
            have HS := Lib.hid hS
            have hsl := Hsl.out
            obtain ⟨sn, hsn⟩ : ∃ sn, S.length = sn := ⟨_, rfl⟩
            rw [hsn] at hco hsl
            have Hsn := Lib.hid hsn
            have Hso := Lib.hid hso
            have Hco := Lib.hid hco
            have Hoo := Lib.hid ho
            clear htk ho hso hco hS hsn Ho HoY k0 k1 k2 k3 k4 k5 k6
            go_wp2_with fail
            refine Hso.out.mono ?_
            rintro e w7 ⟨rfl, ho7, hg7⟩
            have Ho7 := Lib.hid ho7
            have Hb7 := Lib.hid (Hb2.out.grown hg7 Hb2.out.size (fun k h => Hoo.out.row_ge k h))
            clear ho7 hg7 Hso
            go_wp2_with fail
            refine (Hco.out w7 Ho7.out).mono ?_
            rintro e w8 ⟨rfl, ho8, hg8⟩
            have HrS := Lib.hid ho8.rd
            have hb8 := Hb7.out.grown hg8 Hb7.out.size (fun k h => Ho7.out.row_ge k h)
            have Hb8 := Lib.hid (Hb4.out.trans (hb8.mono Hb4.out.size))
            have HP8 := Lib.hid (HP4.out.below hb8)
            have HF8 := Lib.hid (HF4.out.below hb8)
            clear ho8 hg8 hb8 Hco Ho7 Hb7 Hoo Hb2 Hb HP4 HF4
            go_wp2_with fail
            go_loopw [16, 91] (fun vo vi wr => ∃ (j : Nat) (A : Option Addr) (d : Nat) (hs : List Value), vo = .slice A j d ∧ vi = .int .i64 j ∧ j ≤ pn ∧ Hid (hs.length = j) ∧ Hid (Own wr w8.heap.size 25 1 A j d hs) ∧ Hid (ILs [25] w8.heap.size wr hs (needsF all 0 (ks.take j))) ∧ Hid (Below w8.heap.size w8 wr)) (fun _ vi _ => pn - (intOf vi).toNat)
            case atStart => exact ⟨0, none, 0, [], rfl, rfl, by omega, rfl, Own.nil _ _ _ _, (fun i x hi => by cases hi), Below.refl _ _⟩
            case round =>
              obtain ⟨j, A, d, hs, rfl, rfl, hj, Hhs, Ho, HI, Hb⟩ := hrel
              by_cases hjn : j < pn
              · have hjI : (j : Int) < (pn : Int) := by omega
                have hjI0 : (0 : Int) ≤ (j : Int) := by omega
                have hjP : j < P.length := by rw [Hpl.out]; exact hjn
                have hjk : j < ks.length := by rw [HklP.out]; exact hjn
                obtain ⟨pb, po, hPe, p0⟩ := (HP8.out.below Hb.out).nat (List.getElem?_eq_getElem hjP)
                have hKl := HPl.out _ (List.getElem_mem hjP)
                have hke : ks[j] = tabK lt P[j] := by
                  have : ks[j]? = some (tabK lt P[j]) := by rw [HksP.out, List.getElem?_map, List.getElem?_eq_getElem hjP]; rfl
                  rw [List.getElem?_eq_getElem hjk] at this
                  exact Option.some.inj this
                have hts := List.take_succ_eq_append_getElem hjk
                rw [hke] at hts
                have Hsnoc : Hid (needsF all 0 (ks.take (j + 1)) = needsF all 0 (ks.take j) ++ [someC all (preL ks j) (tabK lt P[j]).length]) := by
                  show _ = _
                  rw [hts, needsF_snoc, Nat.zero_add]
                  rfl
                subst hPe
                generalize P[j] = K at *
                have hKn : K < n := by rw [← Hl.out]; exact hKl
                have hKI : (K : Int) < (n : Int) := by omega
                have hKI0 : (0 : Int) ≤ (K : Int) := by omega
                have hnk : (tabK lt K).length ≤ 12 := tabK_len Hkk.out K
                have hpre := preL_le ks j
                obtain ⟨fb, fo, hFe, -⟩ := HF8.out.nat (offs_get ks 0 j hjk)
                subst hFe
                have Hfc := Lib.hid (fun w' (hw : Below w8.heap.size w8 w') => (show w'.cell? ⟨fb, fo + j, none⟩ = some (.int .i64 (preL ks j : Int)) by
                  obtain ⟨fb1, fo1, hFe1, f3⟩ := (HF8.out.below hw).nat (offs_get ks 0 j hjk)
                  have h9 := Option.some.inj hFe1
                  injection h9 with h91 h92
                  subst h91
                  subst h92
                  rw [f3, Nat.zero_add]
                  rfl))
                obtain ⟨lb, lo, hLe, -, -⟩ := (HL.out w8 Hb8.out).rd.table hKl
                subst hLe
                have Htc := Lib.hid (fun w' (hw : Below w8.heap.size w8 w') => (show w'.cell? ⟨lb, lo + K * 2 + 1, none⟩ = some (.slice (l[K]).a (tabK lt K).length (l[K]).c) by
                  obtain ⟨lb1, lo1, hLe1, -, f3⟩ := (HL.out w' (Hb8.out.trans (hw.mono Hb8.out.size))).rd.table hKl
                  have h9 := Option.some.inj hLe1
                  injection h9 with h91 h92
                  subst h91
                  subst h92
                  rw [f3, Hlt.out, tabK_at hKl]))
                generalize (l[K]).a = ka at *
                generalize (l[K]).c = kc at *
                generalize (tabK lt K).length = nk at *
                generalize preL ks j = a at *
                clear hts hke hjP hjk hKl
                generalize wr = wo at *
                go_wp2_with fail
                go_loopw [19, 98] (fun vs vi wr => ∃ (i m : Nat) (B : Option Addr) (e : Nat), vs = .slice B m e ∧ vi = .int .i64 i ∧ i ≤ sn ∧ m ≤ i ∧ Hid ((someF (S.take i) a nk).length = m) ∧ Hid (Own wr wo.heap.size 3 1 B m e (icl (someF (S.take i) a nk))) ∧ Hid (Below wo.heap.size wo wr)) (fun _ vi _ => sn - (intOf vi).toNat)
                case atStart => exact ⟨0, 0, none, 0, rfl, rfl, by omega, by omega, rfl, Own.nil _ _ _ _, Below.refl _ _⟩
                case round =>
                  obtain ⟨i, m, B, e, rfl, rfl, hi, hmi, Hml, Hoi, Hbi⟩ := hrel
                  by_cases hin : i < sn
                  · have hiI : (i : Int) < (sn : Int) := by omega
                    have hiI0 : (0 : Int) ≤ (i : Int) := by omega
                    have hiS : i < S.length := by rw [Hsn.out]; exact hin
                    have hB9 := Hb.out.trans (Hbi.out.mono Hb.out.size)
                    obtain ⟨sb, so, hSe, s0⟩ := (HrS.out.below hB9).num hiS
                    have f0 := Hfc.out wr hB9
                    have t0 := Htc.out wr hB9
                    have hsS := someF_snoc (S.take i) (S[i]) a nk
                    rw [← List.take_succ_eq_append_getElem hiS] at hsS
                    subst hSe
                    generalize S[i] = cv at *
                    have HsS := Lib.hid hsS
                    have hak : IntKind.i64.wrap ((a : Int) + (nk : Int)) = ((a + nk : Nat) : Int) := by rw [IntKind.wrap_i64]; omega
                    clear hsS hiS hB9
                    by_cases h1 : (a : Int) ≤ cv
                    · have e1 : decide ((a : Int) ≤ cv) = true := decide_eq_true h1
                      by_cases h2 : cv < ((a + nk : Nat) : Int)
                      · have e2 : decide (cv < ((a + nk : Nat) : Int)) = true := decide_eq_true h2
                        have hin2 : inT a nk cv = true := by unfold inT; rw [e1, e2]; rfl
                        have hsS := HsS.out
                        rw [if_pos hin2] at hsS
                        have hcw : IntKind.i64.wrap (cv - (a : Int)) = cv - (a : Int) := by rw [IntKind.wrap_i64]; omega
                        have hcw2 : wrap64 (cv - (a : Int)) = cv - (a : Int) := by unfold wrap64; omega
                        have Hys : Hid (icl (someF (S.take i) a nk) ++ [.int .i64 (cv - (a : Int))] = icl (someF (S.take (i + 1)) a nk)) := by
                          show _ = _
                          rw [hsS, icl_snoc]
                        have Hml2 : Hid ((someF (S.take (i + 1)) a nk).length = m + 1) := by
                          show _ = _
                          rw [hsS, List.length_append, Hml.out]
                          rfl
                        have hbD : ∀ D, Below wr.heap.size (wr.drewN D) ((wr.drewN D).alloc (.cells #[.int .i64 (cv - (a : Int))] 3)) := fun D => Below.alloc (Below.refl wr.heap.size (wr.drewN D)) (Nat.le_refl wr.heap.size) _
                        have hoD : ∀ D, Own ((wr.drewN D).alloc (.cells #[.int .i64 (cv - (a : Int))] 3)) wo.heap.size 3 1 B m e (icl (someF (S.take i) a nk)) := fun D => Own.below (w := wr.drewN D) Hoi.out (hbD D)
                        have hbE : ∀ D, Below wo.heap.size wo ((wr.drewN D).alloc (.cells #[.int .i64 (cv - (a : Int))] 3)) := fun D => (below_drewN' Hbi.out D).trans ((hbD D).mono Hbi.out.size)
                        have hnew := fun D => (Blk.new (wr.drewN D) 3 #[.int .i64 (cv - (a : Int))]).range
                        have h2' : cv < (a : Int) + (nk : Int) := by omega
                        have e2' : decide (cv < (a : Int) + (nk : Int)) = true := decide_eq_true h2'
                        clear hsS hbD hin2
                        go_wp2_with fail
                        go_quiet (fail)
                        go_wp2_with (first | (at_builtin; refine hold ?_) | (at_make; refine hold ?_))
                        (with_reducible refine unhold ?_)
                        refine wpList_apd rfl _ _ _ rfl Eint' wo.heap.size _ m _ _ rfl (hoD _) _ 1 _ [.int .i64 (cv - (a : Int))] rfl rfl (fun _ => ⟨_, _, rfl, hnew _⟩) (by simp [Value.oneCell']) (m + 1) rfl _ Hys.out (by omega) (by omega) (hbE _).size ?_
                        intro A5 d5 w9 ho9 hg9 _
                        have Hb9 := Lib.hid ((hbE _).grown hg9 (hbE _).size (hoD 0).row_ge)
                        have Ho9 := Lib.hid ho9
                        clear ho9 hg9 hoD hnew hbE
                        go_wp2_with fail
                        go_roundw
                        case rel => exact ⟨i + 1, m + 1, A5, d5, rfl, by go_num, by omega, by omega, Hml2, Ho9, Hb9⟩
                        case measure => simp [intOf]; omega
                      · have e2 : decide (cv < ((a + nk : Nat) : Int)) = false := decide_eq_false h2
                        have hin2 : ¬ inT a nk cv = true := by unfold inT; rw [e1, e2]; decide
                        have hsS := HsS.out
                        rw [if_neg hin2] at hsS
                        have Hml2 : Hid ((someF (S.take (i + 1)) a nk).length = m) := by show _ = _; rw [hsS, Hml.out]
                        have Ho9 : Hid (∀ D, Own (wr.drewN D) wo.heap.size 3 1 B m e (icl (someF (S.take (i + 1)) a nk))) := Lib.hid fun D => by rw [hsS]; exact Hoi.out
                        have Hb9 : Hid (∀ D, Below wo.heap.size wo (wr.drewN D)) := Lib.hid fun D => below_drewN' Hbi.out D
                        clear hsS hin2
                        go_wp2_with fail
                        go_quiet (fail)
                        go_wp2_with fail
                        go_roundw
                        case rel => exact ⟨i + 1, m, B, e, rfl, by go_num, by omega, by omega, Hml2, Ho9.out _, Hb9.out _⟩
                        case measure => simp [intOf]; omega
                    · have e1 : decide ((a : Int) ≤ cv) = false := decide_eq_false h1
                      have hin2 : ¬ inT a nk cv = true := by unfold inT; rw [e1]; simp
                      have hsS := HsS.out
                      rw [if_neg hin2] at hsS
                      have Hml2 : Hid ((someF (S.take (i + 1)) a nk).length = m) := by show _ = _; rw [hsS, Hml.out]
                      have Ho9 : Hid (∀ D, Own (wr.drewN D) wo.heap.size 3 1 B m e (icl (someF (S.take (i + 1)) a nk))) := Lib.hid fun D => by rw [hsS]; exact Hoi.out
                      have Hb9 : Hid (∀ D, Below wo.heap.size wo (wr.drewN D)) := Lib.hid fun D => below_drewN' Hbi.out D
                      clear hsS hin2
                      go_wp2_with fail
                      go_quiet (fail)
                      go_wp2_with fail
                      go_roundw
                      case rel => exact ⟨i + 1, m, B, e, rfl, by go_num, by omega, by omega, Hml2, Ho9.out _, Hb9.out _⟩
                      case measure => simp [intOf]; omega
                  · obtain rfl : i = sn := by omega
                    have htk : S.take i = S := List.take_of_length_le (by rw [Hsn.out]; exact Nat.le_refl _)
                    have hoi := Hoi.out
                    rw [htk] at hoi
                    have hml := Hml.out
                    rw [htk] at hml
                    have hsame := some_same all a nk
                    rw [← HS.out] at hsame
                    have Hob := Lib.hid (Ho.out.below Hbi.out)
                    have HIb := Lib.hid (HI.out.keeps (Keeps.of_below Hbi.out))
                    have Hbb9 := Lib.hid (Hb.out.trans (Hbi.out.mono Hb.out.size))
                    have hp13 : j ≤ 12 := by omega
                    clear htk Hoi Hml Ho HI
                    by_cases hm0 : m = 0
                    · subst hm0
                      have hnil : someF S a nk = [] := List.eq_nil_of_length_eq_zero hml
                      rw [if_pos hnil] at hsame
                      have hlit : Own (wr.alloc (.cells #[.int .i64 0] 3)) wr.heap.size 3 1 (some ⟨wr.heap.size, 0, none⟩) 1 1 (icl [0]) := Own.lit wr (Nat.le_refl _) 3 #[.int .i64 0] 1 rfl (by decide)
                      have hbX : Below wr.heap.size wr (wr.alloc (.cells #[.int .i64 0] 3)) := (Below.refl _ _).alloc (Nat.le_refl _) _
                      have hbY : Below (wr.alloc (.cells #[.int .i64 0] 3)).heap.size (wr.alloc (.cells #[.int .i64 0] 3)) ((wr.alloc (.cells #[.int .i64 0] 3)).alloc (.cells #[.slice (some ⟨wr.heap.size, 0, none⟩) 1 1] 25)) := (Below.refl _ _).alloc (Nat.le_refl _) _
                      have hrs := Rs.of_own (T := [25]) (B := w8.heap.size) (hlit.below hbY) (by decide)
                      have hbZ := hbX.trans (hbY.mono hbX.size)
                      have hob := Hob.out.below hbZ
                      have hib := HIb.out.keeps (Keeps.of_below hbZ)
                      have hbF := Hbb9.out.trans (hbZ.mono Hbb9.out.size)
                      have hzF := hbF.size
                      have hnew := two_new wr (.cells #[.int .i64 0] 3) 25 (.slice (some ⟨wr.heap.size, 0, none⟩) 1 1)
                      have Hsn2 : Hid (needsF all 0 (ks.take (j + 1)) = needsF all 0 (ks.take j) ++ [[0]]) := by
                        show _ = _
                        rw [Hsnoc.out, ← hsame]
                      clear hlit hbX hbY hbZ hsame hoi hml hnil
                      go_wp2_with (first | (at_builtin; refine hold ?_) | (at_make; refine hold ?_))
                      (with_reducible refine unhold ?_)
                      refine wpList_apd rfl _ _ _ rfl Eints w8.heap.size _ j _ _ rfl hob _ 1 _ [.slice (some ⟨wr.heap.size, 0, none⟩) 1 1] rfl rfl (fun _ => ⟨_, _, rfl, hnew⟩) (by simp [Value.oneCell']) (j + 1) rfl _ rfl (by omega) (by omega) hzF ?_
                      intro A5 d5 w9 ho9 hg9 _
                      have Hb9 := Lib.hid (hbF.grown hg9 hzF hob.row_ge)
                      have Ho9 := Lib.hid ho9
                      have hkp : Keeps [25] w8.heap.size _ w9 := hob.apd_keeps hg9
                      have HI9 : Hid (ILs [25] w8.heap.size w9 (hs ++ [.slice (some ⟨wr.heap.size, 0, none⟩) 1 1]) (needsF all 0 (ks.take (j + 1)))) := by
                        show ILs _ _ _ _ _
                        rw [Hsn2.out]
                        exact (hib.keeps hkp).snoc (by rw [needsF_len, Hhs.out, List.length_take, HklP.out]; omega) rfl (hrs.keeps hkp)
                      have Hhs2 : Hid ((hs ++ [Value.slice (some ⟨wr.heap.size, 0, none⟩) 1 1]).length = j + 1) := by show _ = _; rw [List.length_append, Hhs.out]; rfl
                      clear ho9 hg9 hkp hob hib hbF hzF hnew hrs
                      go_wp2_with fail
                      go_roundw
                      case rel => exact ⟨j + 1, A5, d5, _, rfl, by go_num, by omega, Hhs2, Ho9, HI9, Hb9⟩
                      case measure => simp [intOf]; omega
                    · have hne : ¬ someF S a nk = [] := fun h => hm0 (by rw [← hml, h]; rfl)
                      rw [if_neg hne] at hsame
                      have hm0I : ((m : Int) == 0) = false := by rw [beq_eq_false_iff_ne]; omega
                      have hm0J : ((m : Int) != 0) = true := by rw [bne_iff_ne]; omega
                      have hm0K : (m == 0) = false := by rw [beq_eq_false_iff_ne]; exact hm0
                      have hbZ : Below wr.heap.size wr (wr.alloc (.cells #[.slice B m e] 25)) := (Below.refl _ _).alloc (Nat.le_refl _) _
                      have hrs := Rs.of_own (T := [25]) (B := w8.heap.size) (hoi.below hbZ) (by decide)
                      have hob := Hob.out.below hbZ
                      have hib := HIb.out.keeps (Keeps.of_below hbZ)
                      have hbF := Hbb9.out.trans (hbZ.mono Hbb9.out.size)
                      have hzF := hbF.size
                      have hnew := (Blk.new wr 25 #[.slice B m e]).range
                      have Hml3 := Lib.hid hml
                      have Hsn2 : Hid (needsF all 0 (ks.take (j + 1)) = needsF all 0 (ks.take j) ++ [someF S a nk]) := by
                        show _ = _
                        rw [Hsnoc.out, ← hsame]
                      clear hbZ hsame hoi hml hne
                      go_wp2_with (first | (at_builtin; refine hold ?_) | (at_make; refine hold ?_))
                      (with_reducible refine unhold ?_)
                      refine wpList_apd rfl _ _ _ rfl Eints w8.heap.size _ j _ _ rfl hob _ 1 _ [.slice B m e] rfl rfl (fun _ => ⟨_, _, rfl, hnew⟩) (by simp [Value.oneCell']) (j + 1) rfl _ rfl (by omega) (by omega) hzF ?_
                      intro A5 d5 w9 ho9 hg9 _
                      have Hb9 := Lib.hid (hbF.grown hg9 hzF hob.row_ge)
                      have Ho9 := Lib.hid ho9
                      have hkp : Keeps [25] w8.heap.size _ w9 := hob.apd_keeps hg9
                      have HI9 : Hid (ILs [25] w8.heap.size w9 (hs ++ [.slice B m e]) (needsF all 0 (ks.take (j + 1)))) := by
                        show ILs _ _ _ _ _
                        rw [Hsn2.out]
                        exact (hib.keeps hkp).snoc (by rw [needsF_len, Hhs.out, List.length_take, HklP.out]; omega) Hml3.out (hrs.keeps hkp)
                      have Hhs2 : Hid ((hs ++ [Value.slice B m e]).length = j + 1) := by show _ = _; rw [List.length_append, Hhs.out]; rfl
                      clear ho9 hg9 hkp hob hib hbF hzF hnew hrs
                      go_wp2_with fail
                      go_roundw
                      case rel => exact ⟨j + 1, A5, d5, _, rfl, by go_num, by omega, Hhs2, Ho9, HI9, Hb9⟩
                      case measure => simp [intOf]; omega
              · obtain rfl : j = pn := by omega
                have htk : ks.take j = ks := List.take_of_length_le (by rw [HklP.out]; exact Nat.le_refl _)
                have hi := HI.out
                rw [htk] at hi
                have Hnl : Hid ((needsF all 0 ks).length = j) := by
                  show _ = _
                  rw [needsF_len, HklP.out]
                have HI2 := Lib.hid hi.lists
                have Hfin := Lib.hid (Hb8.out.trans (Hb.out.mono Hb8.out.size))
                clear htk hi
                go_wp2_with fail
                go_ret2
                exact ⟨⟨A, hs, d, by rw [HR1.out]; show Ending.returned (.tuple #[.slice A _ d, _]) = Ending.returned (.tuple #[.slice A (needsF all 0 ks).length d, _]); rw [Hnl.out]; rfl, by rw [HR1.out]; exact Hhs.out.trans Hnl.out.symm, Ho.out.rd, by rw [HR1.out]; exact HI2.out⟩, Hfin.out⟩
  · have HR2 := Lib.hid (HRa.out hce)
    have e1 : (ce == 0) = false := by rw [beq_eq_false_iff_ne]; exact hce
    have e2 : (ce != 0) = true := by simpa using hce
    clear HRa HRb
    go_wp2_with fail
    go_ret2
    exact ⟨⟨none, [], 0, by rw [HR2.out]; rfl, by rw [HR2.out]; rfl, Rd.nil _ _, by rw [HR2.out]; exact fun i x hi => by cases hi⟩, Hb1.out⟩
end Go.Proofs.YtheafcfbahdcfaaDoor
