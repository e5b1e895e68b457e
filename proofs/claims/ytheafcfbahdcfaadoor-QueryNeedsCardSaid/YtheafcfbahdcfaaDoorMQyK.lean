/- Walks: the tables that a query joins: the program's. (Printed by gen_qyk.py.) -/
import Derived.Test.YtheafcfbahdcfaaDoorMGrU
namespace Go.Proofs.YtheafcfbahdcfaaDoor
set_option linter.unusedVariables false
set_option linter.unusedSimpArgs false
open Go.RowKit

attribute [local go_sem ↓] Go.wp_at_zero Go.wp_at_succ

theorem two_new (w : World) (O1 : Obj) (t : TypeId) (v : Value) : ((w.alloc O1).alloc (.cells #[v] t)).rangeAt (w.heap.size + 1) 0 [v] := by
  have := (Blk.new (w.alloc O1) t #[v]).range
  rwa [show (w.alloc O1).heap.size = w.heap.size + 1 from by simp] at this

set_option maxHeartbeats 8000000 in
set_option maxRecDepth 100000 in
theorem joined_any (l : List Th) (L : Option Addr) (n c : Nat) (q : Qy) (a1 : Option Addr) (n1 c1 : Nat) (a2 : Option Addr) (n2 c2 : Nat) (a3 : Option Addr) (n3 c3 : Nat) (a4 : Option Addr) (n4 c4 : Nat) (a5 : Option Addr) (n5 c5 : Nat) (a6 : Option Addr) (n6 c6 : Nat) (w : World) (hl : l.length = n) (hL : Tin w L l) (hf : FewT (l.map Th.t)) (hq : Qi w q a1 n1 a2 n2 a3 n3 a4 n4 a5 n5 a6 n6) (hqf : q.Few) :
    Calls Tryd.prog 7 #[.slice L n c, .agg #[.string (St8 q.frm), .slice a1 n1 c1, .slice a2 n2 c2, .slice a3 n3 c3, .slice a4 n4 c4, .slice a5 n5 c5, .slice a6 n6 c6]] w fun e w' => (∃ A A' d d', e = .returned (.tuple #[.slice A (joinedP (l.map Th.t) q).length d, .slice A' (joinedP (l.map Th.t) q).length d', .int .i64 (joinedE (l.map Th.t) q)]) ∧ Own w' w.heap.size 3 1 A (joinedP (l.map Th.t) q).length d (icl (ints (joinedP (l.map Th.t) q))) ∧ Own w' w.heap.size 3 1 A' (joinedP (l.map Th.t) q).length d' (icl (ints (offs 0 ((joinedP (l.map Th.t) q).map (tabK (l.map Th.t))))))) ∧ Below w.heap.size w w' := by
  have Hl := Lib.hid hl
  have HL := Lib.hid hL
  have Hf := Lib.hid hf
  have Hq := Lib.hid hq
  have hn1 := hqf.joins
  rw [hq.l1] at hn1
  have hn12 := hf.len
  rw [List.length_map, hl] at hn12
  obtain ⟨lt, hlt⟩ : ∃ lt, lt = l.map Th.t := ⟨_, rfl⟩
  have Htab := Lib.hid (fun w' (hw : Below w.heap.size w w') => tables_any l L n c w' hl (hL.below hw) hf)
  have Hfind := Lib.hid (fun s w' (hw : Below w.heap.size w w') => find_any s l L n c w' hl (hL.below hw).rd (by omega))
  rw [← hlt] at Htab Hfind ⊢
  have Hlt := Lib.hid hlt
  obtain ⟨P, hP⟩ : ∃ P, P = joinedP lt q := ⟨_, rfl⟩
  obtain ⟨E, hE⟩ : ∃ E, E = joinedE lt q := ⟨_, rfl⟩
  rw [← hP, ← hE]
  have HP := Lib.hid hP
  have HE := Lib.hid hE
  obtain ⟨wb, hwb⟩ : ∃ x, x = w.alloc (.cells #[.string (St8 q.frm), .slice a1 n1 c1, .slice a2 n2 c2, .slice a3 n3 c3, .slice a4 n4 c4, .slice a5 n5 c5, .slice a6 n6 c6] 29) := ⟨_, rfl⟩
  have Hbx : Hid (Blk wb w.heap.size 29 (#[.string (St8 q.frm), .slice a1 n1 c1, .slice a2 n2 c2, .slice a3 n3 c3, .slice a4 n4 c4, .slice a5 n5 c5, .slice a6 n6 c6]).toList) := by
    show Blk _ _ _ _
    rw [hwb]
    exact Blk.new w _ _
  have Hbb : Hid (Below w.heap.size w wb) := by
    show Below _ _ _
    rw [hwb]
    exact (Below.refl _ _).alloc (Nat.le_refl _) _
  have Hnl : Hid ((namesM q).length = n1 + 1) := by
    show (q.frm :: q.joins.map Jn.table).length = _
    rw [List.length_cons, List.length_map, hq.l1]
  clear hl hL hf hq hqf hlt hP hE
  by_cases ht : tablesOk lt = true
  · have Ht := Lib.hid ht
    rw [if_pos ht] at Htab
    clear ht
    go_enter Tryd.func7, Tryd.ntmps7
    go_wp2_with fail
    rw [← hwb]
    refine (Htab.out wb Hbb.out).mono ?_
    rintro e w1 ⟨rfl, hb1⟩
    have Hb1 := Lib.hid (Hbb.out.trans (hb1.mono Hbb.out.size))
    have Hbx1 := Lib.hid (Hbx.out.below hb1)
    have k0 := Hbx1.out.cell 0
    simp only [List.getElem?_cons_zero] at k0
    have k1 : (w1.alloc (.cells #[.string (St8 q.frm)] 9)).cell? ⟨w.heap.size, 1, none⟩ = some (.slice a1 n1 c1) := (Hbx1.out.alloc _).cell 1
    have Ho0 : Hid (Own (w1.alloc (.cells #[.string (St8 q.frm)] 9)) w.heap.size 9 1 (some ⟨w1.heap.size, 0, none⟩) 1 1 (tcl ((namesM q).take 1))) := Own.lit w1 Hb1.out.size 9 #[.string (St8 q.frm)] 1 rfl (by decide)
    have Hb2 : Hid (Below w.heap.size w (w1.alloc (.cells #[.string (St8 q.frm)] 9))) := Hb1.out.alloc Hb1.out.size _
    clear Htab hb1 hwb Hbx Hbb
    go_wp2_with fail
    go_loopw [8, 27] (fun vn vi wr => ∃ (j m : Nat) (A : Option Addr) (d : Nat), vn = .slice A m d ∧ vi = .int .i64 j ∧ j ≤ n1 ∧ m ≤ 20 ∧ Hid (m = j + 1) ∧ Hid (Own wr w.heap.size 9 1 A m d (tcl ((namesM q).take m))) ∧ Hid (Below w.heap.size w wr)) (fun _ vi _ => n1 - (intOf vi).toNat)
    case atStart => exact ⟨0, 1, _, 1, rfl, rfl, by omega, by omega, rfl, Ho0, Hb2⟩
    case round =>
      obtain ⟨j, m, A, d, rfl, rfl, hj, hm20, Hm, Ho, Hb⟩ := hrel
      by_cases hjn : j < n1
      · have hjI : (j : Int) < (n1 : Int) := by omega
        have hjI0 : (0 : Int) ≤ (j : Int) := by omega
        have hjl : j < q.joins.length := by rw [Hq.out.l1]; exact hjn
        obtain ⟨b, o, ha1, c0, c1', c2'⟩ := (Hq.out.below Hb.out).r1.jn hjl
        have hm19 : m ≤ 14 := by have := Hm.out; omega
        have Hnx : Hid (tcl ((namesM q).take m) ++ [.string (St8 (q.joins[j]).table)] = tcl ((namesM q).take (m + 1))) := by
          show _ = _
          rw [← tcl_snoc]
          congr 1
          have hml : m < (namesM q).length := by rw [Hnl.out, Hm.out]; omega
          rw [List.take_succ_eq_append_getElem hml]
          congr 2
          have h9 : (namesM q)[m]? = some (q.joins[j]).table := by
            rw [Hm.out]
            show (q.frm :: q.joins.map Jn.table)[j + 1]? = _
            rw [List.getElem?_cons_succ, List.getElem?_map, List.getElem?_eq_getElem hjl]
            rfl
          rw [List.getElem?_eq_getElem hml] at h9
          exact (Option.some.inj h9).symm
        subst ha1
        generalize q.joins[j] = x at *
        obtain ⟨tn, lf, rg⟩ := x
        dsimp only at c0 c1' c2' Hnx
        have hbA : Below wr.heap.size wr ((wr.alloc (.cells #[.string (St8 tn), .int .i64 lf, .int .i64 rg] 46)).alloc (.cells #[.string (St8 tn)] 9)) := ((Below.refl _ _).alloc (Nat.le_refl _) _).alloc (by simp) _
        have ho3 := Own.below Ho.out hbA
        have hb3 := Hb.out.trans (hbA.mono Hb.out.size)
        have hz3 := hb3.size
        have hnew := two_new wr (.cells #[.string (St8 tn), .int .i64 lf, .int .i64 rg] 46) 9 (.string (St8 tn))
        clear hbA hjl Ho Hb
        go_wp2_with (first | (at_builtin; refine hold ?_) | (at_make; refine hold ?_))
        (with_reducible refine unhold ?_)
        refine wpList_apd rfl _ _ _ rfl Estr w.heap.size _ m _ _ rfl ho3 _ 1 _ [.string (St8 tn)] rfl rfl (fun _ => ⟨_, _, rfl, hnew⟩) (by simp [Value.oneCell']) (m + 1) rfl _ Hnx.out (by omega) (by omega) hz3 ?_
        intro A5 d5 w9 ho9 hg9 _
        have Hb9 := Lib.hid (hb3.grown hg9 hb3.size ho3.row_ge)
        have Ho9 := Lib.hid ho9
        clear ho9 hg9 ho3 hb3 hnew
        go_wp2_with fail
        go_roundw
        case rel => exact ⟨j + 1, m + 1, A5, d5, rfl, by go_num, by omega, by omega, (show m + 1 = j + 1 + 1 by rw [Hm.out]), Ho9, Hb9⟩
        case measure => simp [intOf]; omega
      · obtain rfl : j = n1 := by omega
        have hon := Ho.out
        rw [List.take_of_length_le (by rw [Hnl.out, Hm.out]; exact Nat.le_refl _)] at hon
        have HN := Lib.hid hon.rd
        have HB3 := Lib.hid Hb.out
        have Hnm : Hid ((namesM q).length = m) := Hnl.out.trans Hm.out.symm
        clear hon Ho Hb Ho0 Hb2 k0 k1 Hbx1 Hb1 Hm Hnl
        generalize wr = w3 at *
        go_wp2_with fail
        go_loopw [4, 5, 11, 12, 39] (fun vt vf vb va vi wr => ∃ (j k at_ : Nat) (A A' : Option Addr) (ct cf : Nat) (tw : Bool) (p : List Nat), vt = .slice A k ct ∧ vf = .slice A' k cf ∧ vb = .bool tw ∧ va = .int .i64 (at_ : Int) ∧ vi = .int .i64 j ∧ j ≤ m ∧ at_ ≤ 12 * j ∧ k ≤ 20 ∧ Hid (k = j) ∧ Hid (p.length = k) ∧ Hid (placesM lt ((namesM q).take j) = some p) ∧ Hid (at_ = (p.map (tabK lt)).flatten.length) ∧ Hid (tw = !decide p.Nodup) ∧ Hid (Own wr w3.heap.size 3 1 A k ct (icl (ints p))) ∧ Hid (Own wr w3.heap.size 3 1 A' k cf (icl (ints (offs 0 (p.map (tabK lt)))))) ∧ Hid ((Value.slice A k ct).ownBlock = none ∨ (Value.slice A k ct).ownBlock ≠ (Value.slice A' k cf).ownBlock) ∧ Hid (Below w3.heap.size w3 wr)) (fun _ _ _ _ vi _ => m - (intOf vi).toNat)
        case atStart => exact ⟨0, 0, 0, none, none, 0, 0, false, [], rfl, rfl, rfl, rfl, rfl, by omega, by omega, by omega, rfl, rfl, rfl, rfl, rfl, Own.nil _ _ _ _, Own.nil _ _ _ _, .inl rfl, Below.refl _ _⟩
        case round =>
          obtain ⟨j, k, at_, A, A', ct, cf, tw, p, rfl, rfl, rfl, rfl, rfl, hj, hat_, hk20, Hkj, Hpl, Hpm, Hat, Htw, HoA, HoB, Hdj, Hb⟩ := hrel
          by_cases hjn : j < m
          · have hjI : (j : Int) < (m : Int) := by omega
            have hjI0 : (0 : Int) ≤ (j : Int) := by omega
            have hjl : j < (namesM q).length := by rw [Hnm.out]; exact hjn
            have hk15 : k ≤ 19 := by have := Hkj.out; omega
            obtain ⟨b, o, hAe, c0⟩ := (HN.out.below Hb.out).txt hjl
            have Htk : Hid ((namesM q).take (j + 1) = (namesM q).take j ++ [(namesM q)[j]]) := List.take_succ_eq_append_getElem hjl
            have Hno : Hid (findT lt (namesM q)[j] = none → placesM lt (namesM q) = none) := fun h => placesM_none lt _ j hjl h
            subst hAe
            generalize (namesM q)[j] = s at *
            have hfd := Hfind.out s wr (HB3.out.trans (Hb.out.mono HB3.out.size))
            cases hfe : findT lt s with
            | none =>
              have hpl : placeT lt s = -1 := by unfold placeT; rw [hfe]
              rw [hpl] at hfd
              obtain ⟨he, hp⟩ := joined_none Ht.out (Hno.out hfe)
              have HE2 : Hid (E = 231) := HE.out.trans he
              have HP2 : Hid (P = []) := HP.out.trans hp
              have Hfd := Lib.hid hfd
              clear hpl hfd he hp hfe
              go_wp2_with fail
              refine Hfd.out.mono ?_
              rintro e w4 ⟨rfl, hb4⟩
              have Hb4 := Lib.hid (HB3.out.trans ((Hb.out.trans (hb4.mono Hb.out.size)).mono HB3.out.size))
              go_wp2_with fail
              go_ret3
              exact ⟨⟨none, none, 0, 0, by rw [HE2.out, HP2.out]; rfl, by rw [HP2.out]; exact Own.nil _ _ _ _, by rw [HP2.out]; exact Own.nil _ _ _ _⟩, Hb4.out⟩
            | some K =>
              have hpl : placeT lt s = (K : Int) := by unfold placeT; rw [hfe]
              rw [hpl] at hfd
              have hKl : K < l.length := by
                have := (findT_lt _ _ _ hfe).1
                rwa [Hlt.out, List.length_map] at this
              have hKn : K < n := by rw [← Hl.out]; exact hKl
              have hKI : (K : Int) < (n : Int) := by omega
              have hKI0 : (0 : Int) ≤ (K : Int) := by omega
              have Hpl7 : Hid (placesM lt ((namesM q).take (j + 1)) = some (p ++ [K])) := by
                show _ = _
                rw [Htk.out]
                exact placesM_snoc lt _ s p K Hpm.out hfe
              have Hfd := Lib.hid hfd
              have hKnn : ¬ (K : Int) < 0 := by omega
              clear hpl hfd hfe Htk Hno
              cases tw with
              | true =>
                have Htw7 : Hid (true = !decide (p ++ [K]).Nodup) := by
                  show _ = _
                  rw [decide_eq_false]
                  · rfl
                  · intro h
                    have := Htw.out
                    rw [decide_eq_true (nodup_snoc.1 h).1] at this
                    cases this
                go_wp2_with fail
                refine Hfd.out.mono ?_
                rintro e w4 ⟨rfl, hb4⟩
                have Hw4 := Lib.hid hb4
                have Hb4 := Lib.hid (Hb.out.trans (hb4.mono Hb.out.size))
                clear hb4
                have hoA := HoA.out.below Hw4.out
                have hoB := HoB.out.below Hw4.out
                have hbA : Below w4.heap.size w4 (w4.alloc (.cells #[.int .i64 (K : Int)] 3)) := (Below.refl _ _).alloc (Nat.le_refl _) _
                have hoA1 := Own.below hoA hbA
                have hoB1 := Own.below hoB hbA
                have hnew := (Blk.new w4 3 #[.int .i64 (K : Int)]).range
                have hb4a := Hb4.out.trans (hbA.mono Hb4.out.size)
                have hz4 := hb4a.size
                clear hoA hoB hbA HoA HoB
                go_wp2_with (first | (at_builtin; refine hold ?_) | (at_make; refine hold ?_))
                (with_reducible refine unhold ?_)
                refine wpList_apd rfl _ _ _ rfl Eint' w3.heap.size _ k _ (icl (ints p)) rfl hoA1 _ 1 _ [.int .i64 (K : Int)] rfl rfl (fun _ => ⟨_, _, rfl, hnew⟩) (by simp [Value.oneCell']) (k + 1) rfl _ rfl (by omega) (by omega) hz4 ?_
                intro A5 d5 w5 ho5 hg5 hat5
                have hb5 := hb4a.grown hg5 hz4 hoA1.row_ge
                have hoB5 := hoB1.kept hg5 (dj_swap Hdj.out)
                have hdj5 := dj_next hoB1 Hdj.out hat5
                have hbB : Below w5.heap.size w5 (w5.alloc (.cells #[.int .i64 (at_ : Int)] 3)) := (Below.refl _ _).alloc (Nat.le_refl _) _
                have HoA6 := Lib.hid (Own.below ho5 hbB)
                have hoB6 := Own.below hoB5 hbB
                have hb5a := hb5.trans (hbB.mono hb5.size)
                have hz5 := hb5a.size
                have hnew2 := (Blk.new w5 3 #[.int .i64 (at_ : Int)]).range
                have Hdj5 := Lib.hid hdj5
                clear hnew hoA1 hoB1 hg5 hat5 ho5 hoB5 hbB hdj5 hb5 hb4a hz4 Hdj
                go_wp2_with (first | (at_builtin; refine hold ?_) | (at_make; refine hold ?_))
                (with_reducible refine unhold ?_)
                refine wpList_apd rfl _ _ _ rfl Eint' w3.heap.size _ k _ (icl (ints (offs 0 (p.map (tabK lt))))) rfl hoB6 _ 1 _ [.int .i64 (at_ : Int)] rfl rfl (fun _ => ⟨_, _, rfl, hnew2⟩) (by simp [Value.oneCell']) (k + 1) rfl _ rfl (by omega) (by omega) hz5 ?_
                intro A6 d6 w6 ho6 hg6 hat6
                have hb6 := hb5a.grown hg6 hz5 hoB6.row_ge
                have HoA7 : Hid (Own w6 w3.heap.size 3 1 A5 (k + 1) d5 (icl (ints (p ++ [K])))) := by
                  show Own _ _ _ _ _ _ _ _
                  rw [ints_snoc, icl_append]
                  exact HoA6.out.kept hg6 Hdj5.out
                have HoB7 : Hid (Own w6 w3.heap.size 3 1 A6 (k + 1) d6 (icl (ints (offs 0 ((p ++ [K]).map (tabK lt)))))) := by
                  show Own _ _ _ _ _ _ _ _
                  rw [List.map_append, List.map_cons, List.map_nil, offs_snoc, ints_snoc, icl_append, Nat.zero_add, ← Hat.out]
                  exact ho6
                have Hdj7 := Lib.hid (dj_swap (dj_next HoA6.out (dj_swap Hdj5.out) hat6))
                have Hb6 := Lib.hid hb6
                obtain ⟨b, o, hLe, c0, c1⟩ := (HL.out.below (HB3.out.trans (hb6.mono HB3.out.size))).rd.table hKl
                have Hmk : Hid ((tabK lt K).length = (l[K]).t.kinds.length) := by
                  show _ = _
                  rw [Hlt.out, tabK_at hKl]
                have hmk : (l[K]).t.kinds.length ≤ 12 := by
                  rw [← Hmk.out, Hlt.out]
                  exact tabK_len Hf.out.kinds K
                subst hLe
                generalize (l[K]).t.kinds.length = mk at *
                generalize (l[K]).a = ka at *
                generalize (l[K]).c = kc at *
                clear ho6 hg6 hat6 hb6 hoB6 hnew2 HoA6 Hdj5 hb5a hz5 c0 hKl
                go_wp2_with fail
                go_roundw
                case rel => exact ⟨j + 1, k + 1, at_ + mk, A5, A6, d5, d6, _, p ++ [K], rfl, rfl, rfl, by go_num, by go_num, by omega, by omega, by omega, (show k + 1 = j + 1 by rw [Hkj.out]), (show _ = _ by rw [List.length_append, Hpl.out]; rfl), Hpl7, (show at_ + mk = _ by rw [flat_snoc, ← Hat.out, Hmk.out]), Htw7, HoA7, HoB7, Hdj7, Hb6⟩
                case measure => simp [intOf]; omega
              | false =>
                have HpN : Hid (p.Nodup) := by
                  have := Htw.out
                  by_cases h : p.Nodup
                  · exact h
                  · rw [decide_eq_false h] at this
                    cases this
                have Hin := Lib.hid (fun w' (hw : Below wr.heap.size wr w') => intc_any (ints p) (K : Int) A k ct w' (by rw [ints_len]; exact Hpl.out) (HoA.out.below hw).rd (by omega))
                obtain ⟨dd, hdd⟩ : ∃ dd, dd = decide ((K : Int) ∈ ints p) := ⟨_, rfl⟩
                rw [← hdd] at Hin
                have Htw7 : Hid (dd = !decide (p ++ [K]).Nodup) := by
                  show _ = _
                  rw [hdd]
                  by_cases h : K ∈ p
                  · rw [decide_eq_true (ints_mem.2 h), decide_eq_false (fun h2 => (nodup_snoc.1 h2).2 h)]
                    rfl
                  · rw [decide_eq_false (fun h2 => h (ints_mem.1 h2)), decide_eq_true (nodup_snoc.2 ⟨HpN.out, h⟩)]
                    rfl
                clear hdd
                go_wp2_with fail
                refine Hfd.out.mono ?_
                rintro e w4 ⟨rfl, hb4⟩
                have Hw4 := Lib.hid hb4
                have Hb4 := Lib.hid (Hb.out.trans (hb4.mono Hb.out.size))
                clear hb4
                go_wp2_with fail
                refine (Hin.out w4 Hw4.out).mono ?_
                rintro e w5 ⟨rfl, rfl⟩
                clear Hin
                have hoA := HoA.out.below Hw4.out
                have hoB := HoB.out.below Hw4.out
                have hbA : Below w4.heap.size w4 (w4.alloc (.cells #[.int .i64 (K : Int)] 3)) := (Below.refl _ _).alloc (Nat.le_refl _) _
                have hoA1 := Own.below hoA hbA
                have hoB1 := Own.below hoB hbA
                have hnew := (Blk.new w4 3 #[.int .i64 (K : Int)]).range
                have hb4a := Hb4.out.trans (hbA.mono Hb4.out.size)
                have hz4 := hb4a.size
                clear hoA hoB hbA HoA HoB
                go_wp2_with (first | (at_builtin; refine hold ?_) | (at_make; refine hold ?_))
                (with_reducible refine unhold ?_)
                refine wpList_apd rfl _ _ _ rfl Eint' w3.heap.size _ k _ (icl (ints p)) rfl hoA1 _ 1 _ [.int .i64 (K : Int)] rfl rfl (fun _ => ⟨_, _, rfl, hnew⟩) (by simp [Value.oneCell']) (k + 1) rfl _ rfl (by omega) (by omega) hz4 ?_
                intro A5 d5 w5 ho5 hg5 hat5
                have hb5 := hb4a.grown hg5 hz4 hoA1.row_ge
                have hoB5 := hoB1.kept hg5 (dj_swap Hdj.out)
                have hdj5 := dj_next hoB1 Hdj.out hat5
                have hbB : Below w5.heap.size w5 (w5.alloc (.cells #[.int .i64 (at_ : Int)] 3)) := (Below.refl _ _).alloc (Nat.le_refl _) _
                have HoA6 := Lib.hid (Own.below ho5 hbB)
                have hoB6 := Own.below hoB5 hbB
                have hb5a := hb5.trans (hbB.mono hb5.size)
                have hz5 := hb5a.size
                have hnew2 := (Blk.new w5 3 #[.int .i64 (at_ : Int)]).range
                have Hdj5 := Lib.hid hdj5
                clear hnew hoA1 hoB1 hg5 hat5 ho5 hoB5 hbB hdj5 hb5 hb4a hz4 Hdj
                go_wp2_with (first | (at_builtin; refine hold ?_) | (at_make; refine hold ?_))
                (with_reducible refine unhold ?_)
                refine wpList_apd rfl _ _ _ rfl Eint' w3.heap.size _ k _ (icl (ints (offs 0 (p.map (tabK lt))))) rfl hoB6 _ 1 _ [.int .i64 (at_ : Int)] rfl rfl (fun _ => ⟨_, _, rfl, hnew2⟩) (by simp [Value.oneCell']) (k + 1) rfl _ rfl (by omega) (by omega) hz5 ?_
                intro A6 d6 w6 ho6 hg6 hat6
                have hb6 := hb5a.grown hg6 hz5 hoB6.row_ge
                have HoA7 : Hid (Own w6 w3.heap.size 3 1 A5 (k + 1) d5 (icl (ints (p ++ [K])))) := by
                  show Own _ _ _ _ _ _ _ _
                  rw [ints_snoc, icl_append]
                  exact HoA6.out.kept hg6 Hdj5.out
                have HoB7 : Hid (Own w6 w3.heap.size 3 1 A6 (k + 1) d6 (icl (ints (offs 0 ((p ++ [K]).map (tabK lt)))))) := by
                  show Own _ _ _ _ _ _ _ _
                  rw [List.map_append, List.map_cons, List.map_nil, offs_snoc, ints_snoc, icl_append, Nat.zero_add, ← Hat.out]
                  exact ho6
                have Hdj7 := Lib.hid (dj_swap (dj_next HoA6.out (dj_swap Hdj5.out) hat6))
                have Hb6 := Lib.hid hb6
                obtain ⟨b, o, hLe, c0, c1⟩ := (HL.out.below (HB3.out.trans (hb6.mono HB3.out.size))).rd.table hKl
                have Hmk : Hid ((tabK lt K).length = (l[K]).t.kinds.length) := by
                  show _ = _
                  rw [Hlt.out, tabK_at hKl]
                have hmk : (l[K]).t.kinds.length ≤ 12 := by
                  rw [← Hmk.out, Hlt.out]
                  exact tabK_len Hf.out.kinds K
                subst hLe
                generalize (l[K]).t.kinds.length = mk at *
                generalize (l[K]).a = ka at *
                generalize (l[K]).c = kc at *
                clear ho6 hg6 hat6 hb6 hoB6 hnew2 HoA6 Hdj5 hb5a hz5 c0 hKl
                go_wp2_with fail
                go_roundw
                case rel => exact ⟨j + 1, k + 1, at_ + mk, A5, A6, d5, d6, _, p ++ [K], rfl, rfl, rfl, by go_num, by go_num, by omega, by omega, by omega, (show k + 1 = j + 1 by rw [Hkj.out]), (show _ = _ by rw [List.length_append, Hpl.out]; rfl), Hpl7, (show at_ + mk = _ by rw [flat_snoc, ← Hat.out, Hmk.out]), Htw7, HoA7, HoB7, Hdj7, Hb6⟩
                case measure => simp [intOf]; omega
          · obtain rfl : j = m := by omega
            have hpm := Hpm.out
            rw [List.take_of_length_le (by rw [Hnm.out]; exact Nat.le_refl _)] at hpm
            have Hfin := Lib.hid (HB3.out.trans (Hb.out.mono HB3.out.size))
            cases tw with
            | true =>
              have hnd : ¬ p.Nodup := by
                intro h
                have := Htw.out
                rw [decide_eq_true h] at this
                cases this
              obtain ⟨he, hp⟩ := joined_twice Ht.out hpm hnd
              have HE2 : Hid (E = 232) := HE.out.trans he
              have HP2 : Hid (P = []) := HP.out.trans hp
              clear hpm hnd he hp
              go_wp2_with fail
              go_ret3
              exact ⟨⟨none, none, 0, 0, by rw [HE2.out, HP2.out]; rfl, by rw [HP2.out]; exact Own.nil _ _ _ _, by rw [HP2.out]; exact Own.nil _ _ _ _⟩, Hfin.out⟩
            | false =>
              have hnd : p.Nodup := by
                have := Htw.out
                by_cases h : p.Nodup
                · exact h
                · rw [decide_eq_false h] at this
                  cases this
              obtain ⟨he, hp⟩ := joined_good Ht.out hpm hnd
              have HE2 : Hid (E = 0) := HE.out.trans he
              have HP2 : Hid (P = p) := HP.out.trans hp
              clear hpm hnd he hp
              go_wp2_with fail
              go_ret3
              exact ⟨⟨A, A', ct, cf, by rw [HE2.out, HP2.out, Hpl.out]; rfl, by rw [HP2.out, Hpl.out]; exact HoA.out.lower HB3.out.size, by rw [HP2.out, Hpl.out]; exact HoB.out.lower HB3.out.size⟩, Hfin.out⟩
  · rw [if_neg ht] at Htab
    obtain ⟨he, hp⟩ := joined_bad (Bool.eq_false_iff.2 ht)
    have HE2 : Hid (E = 230) := HE.out.trans he
    have HP2 : Hid (P = []) := HP.out.trans hp
    clear he hp ht
    go_enter Tryd.func7, Tryd.ntmps7
    go_wp2_with fail
    rw [← hwb]
    refine (Htab.out wb Hbb.out).mono ?_
    rintro e w1 ⟨rfl, hb1⟩
    have Hb1 := Lib.hid (Hbb.out.trans (hb1.mono Hbb.out.size))
    go_wp2_with fail
    go_ret3
    exact ⟨⟨none, none, 0, 0, by rw [HE2.out, HP2.out]; rfl, by rw [HP2.out]; exact Own.nil _ _ _ _, by rw [HP2.out]; exact Own.nil _ _ _ _⟩, Hb1.out⟩
end Go.Proofs.YtheafcfbahdcfaaDoor
