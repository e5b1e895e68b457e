/- Walks: the tables that a query joins: the reference's. Walks: the kinds of all columns: the reference's. (Printed by gen_rqk.py.) -/
import Derived.Test.YtheafcfbahdcfaaDoorMGrI
import Derived.Test.YtheafcfbahdcfaaDoorMGrJ
import Derived.Test.YtheafcfbahdcfaaDoorMQyK
import Derived.Test.YtheafcfbahdcfaaDoorMQyP
namespace Go.Proofs.YtheafcfbahdcfaaDoor
set_option linter.unusedVariables false
set_option linter.unusedSimpArgs false
open Go.RowKit

attribute [local go_sem ↓] Go.wp_at_zero Go.wp_at_succ

theorem drewB5 (w : World) (q : Nat) : Below w.heap.size w (w.drewN q) := ⟨rfl, rfl, rfl, Nat.le_refl _, fun _ _ => rfl⟩
set_option maxHeartbeats 16000000 in
set_option maxRecDepth 100000 in
theorem rjoined_any (l : List Th) (L : Option Addr) (n c : Nat) (q : Qy) (a1 : Option Addr) (n1 c1 : Nat) (a2 : Option Addr) (n2 c2 : Nat) (a3 : Option Addr) (n3 c3 : Nat) (a4 : Option Addr) (n4 c4 : Nat) (a5 : Option Addr) (n5 c5 : Nat) (a6 : Option Addr) (n6 c6 : Nat) (w : World) (hl : l.length = n) (hL : Tin w L l) (hf : FewT (l.map Th.t)) (hq : Qi w q a1 n1 a2 n2 a3 n3 a4 n4 a5 n5 a6 n6) (hqf : q.Few) :
    Calls Tryd.prog 8 #[.slice L n c, .agg #[.string (St8 q.frm), .slice a1 n1 c1, .slice a2 n2 c2, .slice a3 n3 c3, .slice a4 n4 c4, .slice a5 n5 c5, .slice a6 n6 c6]] w fun e w' => (∃ A A' d d', e = .returned (.tuple #[.slice A (joinedP (l.map Th.t) q).length d, .slice A' (joinedP (l.map Th.t) q).length d', .int .i64 (joinedE (l.map Th.t) q)]) ∧ Own w' w.heap.size 3 1 A (joinedP (l.map Th.t) q).length d (icl (ints (joinedP (l.map Th.t) q))) ∧ Own w' w.heap.size 3 1 A' (joinedP (l.map Th.t) q).length d' (icl (ints (offs 0 ((joinedP (l.map Th.t) q).map (tabK (l.map Th.t))))))) ∧ Below w.heap.size w w' := by
  have Hl := Lib.hid hl
  have HL := Lib.hid hL
  have Hf := Lib.hid hf
  have Hq := Lib.hid hq
  have hn1 := hqf.joins
  rw [hq.l1] at hn1
  have hn12 := hf.len
  rw [List.length_map, hl] at hn12
  obtain ⟨lt, hlt⟩ : ∃ lt, lt = l.map Th.t := ⟨_, rfl⟩
  have Htab := Lib.hid (fun w' (hw : Below w.heap.size w w') => rtables_any l L n c w' hl (hL.below hw) hf)
  have Hfind := Lib.hid (fun s w' (hw : Below w.heap.size w w') => rplace_any s l L n c w' hl (hL.below hw).rd (by omega))
  rw [← hlt] at Htab Hfind ⊢
  have Hlt := Lib.hid hlt
  obtain ⟨P, hP⟩ : ∃ P, P = joinedP lt q := ⟨_, rfl⟩
  obtain ⟨E, hE⟩ : ∃ E, E = joinedE lt q := ⟨_, rfl⟩
  rw [← hP, ← hE]
  have HP := Lib.hid hP
  have HE := Lib.hid hE
  obtain ⟨wb, hwb⟩ : ∃ x, x = w.alloc (.cells #[.string (St8 q.frm), .slice a1 n1 c1, .slice a2 n2 c2, .slice a3 n3 c3, .slice a4 n4 c4, .slice a5 n5 c5, .slice a6 n6 c6] 29) := ⟨_, rfl⟩
  have hbx : Blk wb w.heap.size 29 (#[.string (St8 q.frm), .slice a1 n1 c1, .slice a2 n2 c2, .slice a3 n3 c3, .slice a4 n4 c4, .slice a5 n5 c5, .slice a6 n6 c6]).toList := by
    rw [hwb]
    exact Blk.new w _ _
  have Hbb : Hid (Below w.heap.size w wb) := by
    show Below _ _ _
    rw [hwb]
    exact (Below.refl _ _).alloc (Nat.le_refl _) _
  have Hce := Lib.hid (fun w' (hw : Below wb.heap.size wb w') => (⟨(hbx.below hw).cell 0, (hbx.below hw).cell 1⟩ : w'.cell? ⟨w.heap.size, 0, none⟩ = some (.string (St8 q.frm)) ∧ w'.cell? ⟨w.heap.size, 1, none⟩ = some (.slice a1 n1 c1)))
  have Hnl : Hid ((namesM q).length = n1 + 1) := by
    show (q.frm :: q.joins.map Jn.table).length = _
    rw [List.length_cons, List.length_map, hq.l1]
  obtain ⟨k0, k1⟩ := Hce.out wb (Below.refl _ _)
  clear hl hL hf hq hqf hlt hP hE hbx
  by_cases ht : tablesOk lt = true
  · have Ht := Lib.hid ht
    rw [if_pos ht] at Htab
    have Htb := Lib.hid (Htab.out wb Hbb.out)
    clear ht Htab
    go_enter Tryd.func8, Tryd.ntmps8
    go_wp2_with fail
    rw [← hwb]
    refine Htb.out.mono ?_
    rintro e w1 ⟨rfl, hw1⟩
    subst hw1
    have Ho0 : Hid (Own (w1.alloc (.cells #[.string (St8 q.frm)] 9)) w1.heap.size 9 1 (some ⟨w1.heap.size, 0, none⟩) 1 1 (tcl ((namesM q).take 1))) := Own.lit w1 (Nat.le_refl _) 9 #[.string (St8 q.frm)] 1 rfl (by decide)
    have Hb2 : Hid (Below w1.heap.size w1 (w1.alloc (.cells #[.string (St8 q.frm)] 9))) := (Below.refl _ _).alloc (Nat.le_refl _) _
    clear Htb hwb
    go_wp2_with fail
    go_loopw [8, 9] (fun vn vi wr => ∃ (j m : Nat) (A : Option Addr) (d : Nat), vn = .slice A m d ∧ vi = .int .i64 j ∧ j ≤ n1 ∧ m ≤ 20 ∧ Hid (m = j + 1) ∧ Hid (Own wr w1.heap.size 9 1 A m d (tcl ((namesM q).take m))) ∧ Hid (Below w1.heap.size w1 wr)) (fun _ vi _ => n1 - (intOf vi).toNat)
    case atStart => exact ⟨0, 1, _, 1, rfl, rfl, by omega, by omega, rfl, Ho0, Hb2⟩
    case round =>
      obtain ⟨j, m, A, d, rfl, rfl, hj, hm20, Hm, Ho, Hb⟩ := hrel
      clear Ho0 Hb2 k0 k1
      obtain ⟨k0, k1⟩ := Hce.out wr Hb.out
      by_cases hjn : j < n1
      · have hjI : (j : Int) < (n1 : Int) := by omega
        have hjI0 : (0 : Int) ≤ (j : Int) := by omega
        have hjl : j < q.joins.length := by rw [Hq.out.l1]; exact hjn
        obtain ⟨b, o, ha1, c0, c1', c2'⟩ := (Hq.out.below (Hbb.out.trans (Hb.out.mono Hbb.out.size))).r1.jn hjl
        have hm19 : m ≤ 14 := by have := Hm.out; omega
        have Hnx : Hid (tcl ((namesM q).take m) ++ [.string (St8 (q.joins[j]).table)] = tcl ((namesM q).take (m + 1))) := by
          show _ = _
          rw [← tcl_snoc]
          congr 1
          have hml : m < (namesM q).length := by rw [Hnl.out, Hm.out]; omega
          rw [List.take_succ_eq_append_getElem hml]
          congr 2
          have h9 : (namesM q)[m]? = some (q.joins[j]).table := by
            rw [Hm.out]
            show (q.frm :: q.joins.map Jn.table)[j + 1]? = _
            rw [List.getElem?_cons_succ, List.getElem?_map, List.getElem?_eq_getElem hjl]
            rfl
          rw [List.getElem?_eq_getElem hml] at h9
          exact (Option.some.inj h9).symm
        subst ha1
        generalize q.joins[j] = x at *
        obtain ⟨tn, lf, rg⟩ := x
        dsimp only at c0 c1' c2' Hnx
        have hbA : Below wr.heap.size wr (wr.alloc (.cells #[.string (St8 tn)] 9)) := (Below.refl _ _).alloc (Nat.le_refl _) _
        have ho3 := Own.below Ho.out hbA
        have hb3 := Hb.out.trans (hbA.mono Hb.out.size)
        have hz3 := hb3.size
        have hnew := (Blk.new wr 9 #[.string (St8 tn)]).range
        clear hbA hjl Ho Hb c1' c2'
        go_wp2_with (first | (at_builtin; refine hold ?_) | (at_make; refine hold ?_))
        (with_reducible refine unhold ?_)
        refine wpList_apd rfl _ _ _ rfl Estr w1.heap.size _ m _ _ rfl ho3 _ 1 _ [.string (St8 tn)] rfl rfl (fun _ => ⟨_, _, rfl, hnew⟩) (by simp [Value.oneCell']) (m + 1) rfl _ Hnx.out (by omega) (by omega) hz3 ?_
        intro A5 d5 w9 ho9 hg9 _
        have Hb9 := Lib.hid (hb3.grown hg9 hb3.size ho3.row_ge)
        have Ho9 := Lib.hid ho9
        clear ho9 hg9 ho3 hb3 hnew k0 k1 c0
        go_wp2_with fail
        go_roundw
        case rel => exact ⟨j + 1, m + 1, A5, d5, rfl, by go_num, by omega, by omega, (show m + 1 = j + 1 + 1 by rw [Hm.out]), Ho9, Hb9⟩
        case measure => simp [intOf]; omega
      · obtain rfl : j = n1 := by omega
        have hon := Ho.out
        rw [List.take_of_length_le (by rw [Hnl.out, Hm.out]; exact Nat.le_refl _)] at hon
        have HN := Lib.hid hon.rd
        have HB3 := Lib.hid (Hbb.out.trans (Hb.out.mono Hbb.out.size))
        have Hnm : Hid ((namesM q).length = m) := Hnl.out.trans Hm.out.symm
        have Hb1 := Lib.hid Hb.out
        have hjI : ¬ (j : Int) < (j : Int) := by omega
        clear hon Ho Hb Hm Hnl Hce
        generalize wr = w3 at *
        go_wp2_with fail
        go_loopw [10] (fun vi wr => ∃ i : Nat, vi = .int .i64 i ∧ i ≤ m ∧ Hid (∀ p (hp : p < (namesM q).length), p < i → findT lt (namesM q)[p] ≠ none) ∧ Hid (wr = w3)) (fun vi _ => m - (intOf vi).toNat)
        case atStart => exact ⟨0, rfl, by omega, (fun p _ h => by omega), rfl⟩
        case round =>
          obtain ⟨i, rfl, hi, Hal, Hww⟩ := hrel
          have hww := Hww.out
          subst hww
          by_cases him : i < m
          · have hiI : (i : Int) < (m : Int) := by omega
            have hiI0 : (0 : Int) ≤ (i : Int) := by omega
            have hil : i < (namesM q).length := by rw [Hnm.out]; exact him
            obtain ⟨b, o, hAe, c0⟩ := HN.out.txt hil
            have Hno : Hid (findT lt (namesM q)[i] = none → placesM lt (namesM q) = none) := fun h => placesM_none lt _ i hil h
            have Hye : Hid (findT lt (namesM q)[i] ≠ none → ∀ p (hp : p < (namesM q).length), p < i + 1 → findT lt (namesM q)[p] ≠ none) := fun h p hp hpi => by
              by_cases e : p = i
              · subst e; exact h
              · exact Hal.out p hp (by omega)
            subst hAe
            generalize (namesM q)[i] = s at *
            have hfd := Hfind.out s wr HB3.out
            cases hfe : findT lt s with
            | none =>
              have hpl : placeT lt s = -1 := by unfold placeT; rw [hfe]
              rw [hpl] at hfd
              obtain ⟨he, hp⟩ := joined_none Ht.out (Hno.out hfe)
              have HE2 : Hid (E = 231) := HE.out.trans he
              have HP2 : Hid (P = []) := HP.out.trans hp
              have Hfd := Lib.hid hfd
              clear hpl hfd he hp hfe Hye Hno
              go_wp2_with fail
              refine Hfd.out.mono ?_
              rintro e w4 ⟨rfl, hw4⟩
              subst hw4
              go_wp2_with fail
              go_ret3
              exact ⟨⟨none, none, 0, 0, by rw [HE2.out, HP2.out]; rfl, by rw [HP2.out]; exact Own.nil _ _ _ _, by rw [HP2.out]; exact Own.nil _ _ _ _⟩, HB3.out⟩
            | some K =>
              have hpl : placeT lt s = (K : Int) := by unfold placeT; rw [hfe]
              rw [hpl] at hfd
              have HY := Lib.hid (Hye.out (by rw [hfe]; intro h; cases h))
              have Hfd := Lib.hid hfd
              have hKnn : ¬ (K : Int) < 0 := by omega
              clear hpl hfd hfe Hye Hno
              go_wp2_with fail
              refine Hfd.out.mono ?_
              rintro e w4 ⟨rfl, hw4⟩
              subst hw4
              go_wp2_with fail
              go_roundw
              case rel => exact ⟨i + 1, by go_num, by omega, HY, by first | exact rfl | exact trivial⟩
              case measure => simp [intOf]; omega
          · obtain rfl : i = m := by omega
            obtain ⟨p, hpm⟩ := placesM_all lt (namesM q) (fun p hp => Hal.out p hp (by rw [Hnm.out] at hp; exact hp))
            have Hpm := Lib.hid hpm
            have hiI : ¬ (i : Int) < (i : Int) := by omega
            have hpl := placesM_len lt _ _ hpm
            rw [Hnm.out] at hpl
            have Hpl := Lib.hid hpl
            clear Hal hpm hpl
            generalize wr = w4 at *
            go_wp2_with fail
            go_loopw [11, 12, 13, 14] (fun vt vf va vi wr => ∃ (j at_ : Nat) (X Y : Option Addr) (ct cf : Nat), vt = .slice X j ct ∧ vf = .slice Y j cf ∧ va = .int .i64 (at_ : Int) ∧ vi = .int .i64 j ∧ j ≤ i ∧ at_ ≤ 12 * j ∧ Hid (at_ = ((p.take j).map (tabK lt)).flatten.length) ∧ Hid ((p.take j).Nodup) ∧ Hid (Own wr w4.heap.size 3 1 X j ct (icl (ints (p.take j)))) ∧ Hid (Own wr w4.heap.size 3 1 Y j cf (icl (ints (offs 0 ((p.take j).map (tabK lt)))))) ∧ Hid ((Value.slice X j ct).ownBlock = none ∨ (Value.slice X j ct).ownBlock ≠ (Value.slice Y j cf).ownBlock) ∧ Hid (Below w4.heap.size w4 wr)) (fun _ _ _ vi _ => i - (intOf vi).toNat)
            case atStart => exact ⟨0, 0, none, none, 0, 0, rfl, rfl, rfl, rfl, by omega, by omega, rfl, List.Pairwise.nil, Own.nil _ _ _ _, Own.nil _ _ _ _, .inl rfl, Below.refl _ _⟩
            case round =>
              obtain ⟨j, at_, X, Y, ct, cf, rfl, rfl, rfl, rfl, hj, hat_, Hat, Hnd, HoA, HoB, Hdj, Hb⟩ := hrel
              have HBr := Lib.hid (HB3.out.trans (Hb.out.mono HB3.out.size))
              have HN4 := Lib.hid (HN.out.below Hb.out)
              by_cases hji : j < i
              · have hjI : (j : Int) < (i : Int) := by omega
                have hjI0 : (0 : Int) ≤ (j : Int) := by omega
                have hjl : j < (namesM q).length := by rw [Hnm.out]; exact hji
                obtain ⟨K, hpk, hfK⟩ := placesM_at lt _ _ Hpm.out j hjl
                have Htk : Hid (p.take (j + 1) = p.take j ++ [K]) := take_nodup hpk
                have Hpk := Lib.hid hpk
                have HfK := Lib.hid hfK
                clear hpk hfK
                generalize wr = w5 at *
                go_wp2_with fail
                go_loopw [15] (fun vk wr => ∃ k : Nat, vk = .int .i64 k ∧ k ≤ j ∧ Hid (∀ x (hx : x < j), x < k → ¬ (namesM q)[x]'(by omega) = (namesM q)[j]) ∧ Hid (Below w5.heap.size w5 wr)) (fun vk _ => j - (intOf vk).toNat)
                case atStart => exact ⟨0, rfl, by omega, (fun x _ h => by omega), Below.refl _ _⟩
                case round =>
                  obtain ⟨k, rfl, hk, Hd, Hb5⟩ := hrel
                  have HB5 := Lib.hid (HBr.out.trans (Hb5.out.mono HBr.out.size))
                  obtain ⟨b, o, hAe, d0⟩ := (HN4.out.below Hb5.out).txt hjl
                  by_cases hkj : k < j
                  · have hkI : (k : Int) < (j : Int) := by omega
                    have hkI0 : (0 : Int) ≤ (k : Int) := by omega
                    have hki : (k : Int) < (i : Int) := by omega
                    have hkl : k < (namesM q).length := by omega
                    obtain ⟨b', o', hAe', d1⟩ := (HN4.out.below Hb5.out).txt hkl
                    have hbo : b' = b ∧ o' = o := by rw [hAe] at hAe'; cases hAe'; exact ⟨rfl, rfl⟩
                    obtain ⟨rfl, rfl⟩ := hbo
                    have hcc := St8_cmp (namesM q)[k] (namesM q)[j]
                    have hye : (namesM q)[k] = (namesM q)[j] → ¬ p.Nodup := fun e => twice_yes Hpm.out hkj hjl e
                    have hno : ¬ (namesM q)[k] = (namesM q)[j] → ∀ x (hx : x < j), x < k + 1 → ¬ (namesM q)[x]'(by omega) = (namesM q)[j] := fun e x hx hxk => by
                      by_cases e2 : x = k
                      · subst e2; exact e
                      · exact Hd.out x hx (by omega)
                    subst hAe
                    clear hAe'
                    by_cases hx : (namesM q)[k] = (namesM q)[j]
                    · rw [decide_eq_true hx] at hcc
                      obtain ⟨he, hp⟩ := joined_twice Ht.out Hpm.out (hye hx)
                      have HE2 : Hid (E = 232) := HE.out.trans he
                      have HP2 : Hid (P = []) := HP.out.trans hp
                      have Hcc := Lib.hid hcc
                      clear hye hno he hp hx hcc
                      generalize (namesM q)[k] = sk at *
                      generalize (namesM q)[j] = sj at *
                      have hcc := Hcc.out
                      go_wp2_with fail
                      go_quiet (fail)
                      go_wp2_with fail
                      go_ret3
                      exact ⟨⟨none, none, 0, 0, by rw [HE2.out, HP2.out]; rfl, by rw [HP2.out]; exact Own.nil _ _ _ _, by rw [HP2.out]; exact Own.nil _ _ _ _⟩, HB5.out.trans ((drewB5 _ _).mono HB5.out.size)⟩
                    · rw [decide_eq_false hx] at hcc
                      have HY := Lib.hid (hno hx)
                      clear hye hno hx
                      generalize hsk : (namesM q)[k] = sk at *
                      generalize hsj : (namesM q)[j] = sj at *
                      have Hsk := Lib.hid hsk
                      have Hsj := Lib.hid hsj
                      clear hsk hsj
                      go_wp2_with fail
                      go_quiet (fail)
                      go_wp2_with fail
                      go_roundw
                      case rel => exact ⟨k + 1, by go_num, by omega, HY, Hb5.out.trans ((drewB5 _ _).mono Hb5.out.size)⟩
                      case measure => simp [intOf]; omega
                  · obtain rfl : k = j := by omega
                    have hkn := twice_no Hpm.out hjl Hpk.out (fun x hx => Hd.out x hx hx)
                    have Hnd2 : Hid ((p.take (k + 1)).Nodup) := by
                      show _
                      rw [Htk.out]
                      exact nodup_snoc.2 ⟨Hnd.out, hkn⟩
                    have hKl : K < l.length := by
                      have := (findT_lt _ _ _ HfK.out).1
                      rwa [Hlt.out, List.length_map] at this
                    have hKn : K < n := by rw [← Hl.out]; exact hKl
                    have hKI : (K : Int) < (n : Int) := by omega
                    have hKI0 : (0 : Int) ≤ (K : Int) := by omega
                    have hkI : ¬ (k : Int) < (k : Int) := by omega
                    have hfd := Hfind.out (namesM q)[k] wr HB5.out
                    have hpl : placeT lt (namesM q)[k] = (K : Int) := by unfold placeT; rw [HfK.out]
                    rw [hpl] at hfd
                    have Hfd := Lib.hid hfd
                    have HoA5 := Lib.hid (HoA.out.below Hb5.out)
                    have HoB5 := Lib.hid (HoB.out.below Hb5.out)
                    have Hb4 := Lib.hid (Hb.out.trans (Hb5.out.mono Hb.out.size))
                    subst hAe
                    clear hpl hfd hkn HoA HoB Hd HBr HN4 HfK Hpk
                    generalize (namesM q)[k] = s at *
                    generalize wr = w6 at *
                    go_wp2_with fail
                    refine Hfd.out.mono ?_
                    rintro e w7 ⟨rfl, hw7⟩
                    subst hw7
                    clear d0 Hb5
                    have hoA := HoA5.out
                    have hoB := HoB5.out
                    have hbA : Below w7.heap.size w7 (w7.alloc (.cells #[.int .i64 (K : Int)] 3)) := (Below.refl _ _).alloc (Nat.le_refl _) _
                    have hoA1 := Own.below hoA hbA
                    have hoB1 := Own.below hoB hbA
                    have hnew := (Blk.new w7 3 #[.int .i64 (K : Int)]).range
                    have hb4a := Hb4.out.trans (hbA.mono Hb4.out.size)
                    have hz4 := hb4a.size
                    clear hoA hoB hbA HoA5 HoB5 Hfd
                    go_wp2_with (first | (at_builtin; refine hold ?_) | (at_make; refine hold ?_))
                    (with_reducible refine unhold ?_)
                    refine wpList_apd rfl _ _ _ rfl Eint' w4.heap.size _ k _ (icl (ints (p.take k))) rfl hoA1 _ 1 _ [.int .i64 (K : Int)] rfl rfl (fun _ => ⟨_, _, rfl, hnew⟩) (by simp [Value.oneCell']) (k + 1) rfl _ rfl (by omega) (by omega) hz4 ?_
                    intro A5 d5 w5' ho5 hg5 hat5
                    have hb5 := hb4a.grown hg5 hz4 hoA1.row_ge
                    have hoB5 := hoB1.kept hg5 (dj_swap Hdj.out)
                    have hdj5 := dj_next hoB1 Hdj.out hat5
                    have hbB : Below w5'.heap.size w5' (w5'.alloc (.cells #[.int .i64 (at_ : Int)] 3)) := (Below.refl _ _).alloc (Nat.le_refl _) _
                    have HoA6 := Lib.hid (Own.below ho5 hbB)
                    have hoB6 := Own.below hoB5 hbB
                    have hb5a := hb5.trans (hbB.mono hb5.size)
                    have hz5 := hb5a.size
                    have hnew2 := (Blk.new w5' 3 #[.int .i64 (at_ : Int)]).range
                    have Hdj5 := Lib.hid hdj5
                    clear hnew hoA1 hoB1 hg5 hat5 ho5 hoB5 hbB hdj5 hb5 hb4a hz4 Hdj
                    go_wp2_with (first | (at_builtin; refine hold ?_) | (at_make; refine hold ?_))
                    (with_reducible refine unhold ?_)
                    refine wpList_apd rfl _ _ _ rfl Eint' w4.heap.size _ k _ (icl (ints (offs 0 ((p.take k).map (tabK lt))))) rfl hoB6 _ 1 _ [.int .i64 (at_ : Int)] rfl rfl (fun _ => ⟨_, _, rfl, hnew2⟩) (by simp [Value.oneCell']) (k + 1) rfl _ rfl (by omega) (by omega) hz5 ?_
                    intro A6 d6 w6' ho6 hg6 hat6
                    have hb6 := hb5a.grown hg6 hz5 hoB6.row_ge
                    have HoA7 : Hid (Own w6' w4.heap.size 3 1 A5 (k + 1) d5 (icl (ints (p.take (k + 1))))) := by
                      show Own _ _ _ _ _ _ _ _
                      rw [Htk.out, ints_snoc, icl_append]
                      exact HoA6.out.kept hg6 Hdj5.out
                    have HoB7 : Hid (Own w6' w4.heap.size 3 1 A6 (k + 1) d6 (icl (ints (offs 0 ((p.take (k + 1)).map (tabK lt)))))) := by
                      show Own _ _ _ _ _ _ _ _
                      rw [Htk.out, List.map_append, List.map_cons, List.map_nil, offs_snoc, ints_snoc, icl_append, Nat.zero_add, ← Hat.out]
                      exact ho6
                    have Hdj7 := Lib.hid (dj_swap (dj_next HoA6.out (dj_swap Hdj5.out) hat6))
                    have Hb6 := Lib.hid hb6
                    obtain ⟨b, o, hLe, c0, c1⟩ := (HL.out.below (HB3.out.trans (hb6.mono HB3.out.size))).rd.table hKl
                    have Hmk : Hid ((tabK lt K).length = (l[K]).t.kinds.length) := by
                      show _ = _
                      rw [Hlt.out, tabK_at hKl]
                    have hmk : (l[K]).t.kinds.length ≤ 12 := by
                      rw [← Hmk.out, Hlt.out]
                      exact tabK_len Hf.out.kinds K
                    subst hLe
                    generalize (l[K]).t.kinds.length = mk at *
                    generalize (l[K]).a = ka at *
                    generalize (l[K]).c = kc at *
                    clear ho6 hg6 hat6 hb6 hoB6 hnew2 HoA6 Hdj5 hb5a hz5 c0 hKl
                    go_wp2_with fail
                    go_roundw
                    case rel => exact ⟨k + 1, at_ + mk, A5, A6, d5, d6, rfl, rfl, by go_num, by go_num, by omega, by omega, (show at_ + mk = _ by rw [Htk.out, flat_snoc, ← Hat.out, Hmk.out]), Hnd2, HoA7, HoB7, Hdj7, Hb6⟩
                    case measure => simp [intOf]; omega
              · obtain rfl : j = i := by omega
                have hpt : p.take j = p := List.take_of_length_le (by rw [Hpl.out]; exact Nat.le_refl _)
                have hnd := Hnd.out
                have hoA := HoA.out
                have hoB := HoB.out
                rw [hpt] at hnd hoA hoB
                obtain ⟨he, hp⟩ := joined_good Ht.out Hpm.out hnd
                have HE2 : Hid (E = 0) := HE.out.trans he
                have HP2 : Hid (P = p) := HP.out.trans hp
                have HoA2 := Lib.hid hoA
                have HoB2 := Lib.hid hoB
                have hjI : ¬ (j : Int) < (j : Int) := by omega
                clear hnd hoA hoB he hp hpt
                go_wp2_with fail
                go_ret3
                exact ⟨⟨X, Y, ct, cf, by rw [HE2.out, HP2.out, Hpl.out]; rfl, by rw [HP2.out, Hpl.out]; exact HoA2.out.lower HB3.out.size, by rw [HP2.out, Hpl.out]; exact HoB2.out.lower HB3.out.size⟩, HBr.out⟩
  · rw [if_neg ht] at Htab
    have Htb := Lib.hid (Htab.out wb Hbb.out)
    obtain ⟨he, hp⟩ := joined_bad (Bool.eq_false_iff.2 ht)
    have HE2 : Hid (E = 230) := HE.out.trans he
    have HP2 : Hid (P = []) := HP.out.trans hp
    clear he hp ht Htab
    go_enter Tryd.func8, Tryd.ntmps8
    go_wp2_with fail
    rw [← hwb]
    refine Htb.out.mono ?_
    rintro e w1 ⟨rfl, hw1⟩
    subst hw1
    clear hwb
    go_wp2_with fail
    go_ret3
    exact ⟨⟨none, none, 0, 0, by rw [HE2.out, HP2.out]; rfl, by rw [HP2.out]; exact Own.nil _ _ _ _, by rw [HP2.out]; exact Own.nil _ _ _ _⟩, Hbb.out⟩
end Go.Proofs.YtheafcfbahdcfaaDoor
namespace Go.Proofs.YtheafcfbahdcfaaDoor
set_option linter.unusedVariables false
set_option linter.unusedSimpArgs false
open Go.RowKit

attribute [local go_sem ↓] Go.wp_at_zero Go.wp_at_succ

set_option maxHeartbeats 8000000 in
set_option maxRecDepth 100000 in
theorem rkinds_any (l : List Th) (L : Option Addr) (n c : Nat) (q : Qy) (a1 : Option Addr) (n1 c1 : Nat) (a2 : Option Addr) (n2 c2 : Nat) (a3 : Option Addr) (n3 c3 : Nat) (a4 : Option Addr) (n4 c4 : Nat) (a5 : Option Addr) (n5 c5 : Nat) (a6 : Option Addr) (n6 c6 : Nat) (w : World) (hl : l.length = n) (hL : Tin w L l) (hf : FewT (l.map Th.t)) (hq : Qi w q a1 n1 a2 n2 a3 n3 a4 n4 a5 n5 a6 n6) (hqf : q.Few) :
    Calls Tryd.prog 10 #[.slice L n c, .agg #[.string (St8 q.frm), .slice a1 n1 c1, .slice a2 n2 c2, .slice a3 n3 c3, .slice a4 n4 c4, .slice a5 n5 c5, .slice a6 n6 c6]] w fun e w' => (∃ A d, e = .returned (.tuple #[.slice A (ktabs (l.map Th.t) q).flatten.length d, .int .i64 (joinedE (l.map Th.t) q)]) ∧ Own w' w.heap.size 5 1 A (ktabs (l.map Th.t) q).flatten.length d (kcells (ktabs (l.map Th.t) q).flatten)) ∧ Below w.heap.size w w' := by
  have Hl := Lib.hid hl
  have HL := Lib.hid hL
  have Hf := Lib.hid hf
  have hn12 := hf.len
  rw [List.length_map, hl] at hn12
  obtain ⟨lt, hlt⟩ : ∃ lt, lt = l.map Th.t := ⟨_, rfl⟩
  have Hjd := Lib.hid (fun w' (hw : Below w.heap.size w w') => rjoined_any l L n c q a1 n1 c1 a2 n2 c2 a3 n3 c3 a4 n4 c4 a5 n5 c5 a6 n6 c6 w' hl (hL.below hw) hf (hq.below hw) hqf)
  rw [← hlt] at Hjd ⊢
  have Hlt := Lib.hid hlt
  obtain ⟨P, hP⟩ : ∃ P, P = joinedP lt q := ⟨_, rfl⟩
  obtain ⟨E, hE⟩ : ∃ E, E = joinedE lt q := ⟨_, rfl⟩
  obtain ⟨X, hX⟩ : ∃ X, X = (ktabs lt q).flatten := ⟨_, rfl⟩
  have hpn : P.length ≤ 13 := by
    rw [hP]
    have := joinedP_le lt q
    have := hqf.joins
    omega
  have HX : Hid (X = (P.map (tabK lt)).flatten) := by
    show _ = _
    rw [hX, hP]
    rfl
  have Hkl : Hid (∀ k ∈ P, k < l.length) := Lib.hid fun k hk => by
    rw [hP] at hk
    have := joinedP_lt hk
    rwa [hlt, List.length_map] at this
  have Hnil : Hid (¬ E = 0 → X = []) := Lib.hid fun h => by
    rw [hE] at h
    rw [hX]
    unfold ktabs joinedP
    rw [if_neg h]
    rfl
  rw [← hP, ← hE] at Hjd
  rw [← hE, ← hX]
  obtain ⟨wb, hwb⟩ : ∃ x, x = w.alloc (.cells #[.string (St8 q.frm), .slice a1 n1 c1, .slice a2 n2 c2, .slice a3 n3 c3, .slice a4 n4 c4, .slice a5 n5 c5, .slice a6 n6 c6] 29) := ⟨_, rfl⟩
  have Hbb : Hid (Below w.heap.size w wb) := by
    show Below _ _ _
    rw [hwb]
    exact (Below.refl _ _).alloc (Nat.le_refl _) _
  clear hl hL hf hq hqf hlt hP hE hX
  go_enter Tryd.func10, Tryd.ntmps10
  go_wp2_with fail
  rw [← hwb]
  refine (Hjd.out wb Hbb.out).mono ?_
  rintro e w1 ⟨⟨A, A', d, d', rfl, hoA, _⟩, hb1⟩
  have Hb1 := Lib.hid (Hbb.out.trans (hb1.mono Hbb.out.size))
  have HoA := Lib.hid hoA.rd
  clear Hjd hb1 hwb Hbb hoA
  by_cases hE : E = 0
  · subst hE
    generalize hpl : P.length = pn at *
    have Hpl := Lib.hid hpl
    clear hpl
    generalize w1 = w3 at *
    go_wp2_with fail
    go_loopw [9, 10] (fun vo vi wr => ∃ (j m : Nat) (A : Option Addr) (d : Nat), vo = .slice A m d ∧ vi = .int .i64 j ∧ j ≤ pn ∧ m ≤ 200 ∧ Hid (m = ((P.take j).map (tabK lt)).flatten.length) ∧ Hid (Own wr w3.heap.size 5 1 A m d (kcells ((P.take j).map (tabK lt)).flatten)) ∧ Hid (Below w3.heap.size w3 wr)) (fun _ vi _ => pn - (intOf vi).toNat)
    case atStart => exact ⟨0, 0, none, 0, rfl, rfl, by omega, by omega, rfl, Own.nil _ _ _ _, Below.refl _ _⟩
    case round =>
      obtain ⟨j, m, B, g, rfl, rfl, hj, hm, Hm, Ho, Hb⟩ := hrel
      by_cases hjn : j < pn
      · have hjI : (j : Int) < (pn : Int) := by omega
        have hjI0 : (0 : Int) ≤ (j : Int) := by omega
        have hjl : j < P.length := by rw [Hpl.out]; exact hjn
        obtain ⟨b, o, hAe, c0⟩ := (HoA.out.below Hb.out).num (j := j) (by rw [ints_len]; exact hjl)
        have hKe : (ints P)[j]'(by rw [ints_len]; exact hjl) = ((P[j] : Nat) : Int) := by unfold ints; rw [List.getElem_map]
        rw [hKe] at c0
        have hKl := Hkl.out _ (List.getElem_mem hjl)
        have Hst : Hid (((P.take j).map (tabK lt)).flatten ++ tabK lt P[j] = ((P.take (j + 1)).map (tabK lt)).flatten) := by
          show _ = _
          rw [List.take_succ_eq_append_getElem hjl, List.map_append, List.flatten_append]
          simp
        have hm2 : m + (tabK lt P[j]).length ≤ 200 := by
          have h1 := congrArg List.length Hst.out
          rw [List.length_append, ← Hm.out] at h1
          have h2 := tabs_le (l := lt) (by rw [Hlt.out]; exact Hf.out.kinds) (P.take (j + 1))
          rw [List.length_take] at h2
          omega
        subst hAe
        generalize P[j] = K at *
        clear hKe
        have hKn : K < n := by rw [← Hl.out]; exact hKl
        have hKI : (K : Int) < (n : Int) := by omega
        have hKI0 : (0 : Int) ≤ (K : Int) := by omega
        have hT := HL.out.below (Hb1.out.trans (Hb.out.mono Hb1.out.size))
        obtain ⟨b2, o2, hLe, d0, d1⟩ := hT.rd.table hKl
        have hk2 := hT.kinds _ (List.getElem_mem hKl)
        have hte : tabK lt K = (l[K]).t.kinds := by rw [Hlt.out, tabK_at hKl]
        rw [hte] at Hst hm2
        subst hLe
        generalize (l[K]).t.kinds = kk at *
        generalize (l[K]).a = ka at *
        generalize (l[K]).c = kc at *
        have Hmk : Hid (kk.length = kk.length) := rfl
        have hkcl := kcells_len kk
        obtain ⟨mk, hmk⟩ : ∃ mk, mk = kk.length := ⟨_, rfl⟩
        rw [← hmk] at d1 hm2 hkcl
        have hkc1 : (kcells kk).length = mk * 1 := by rw [hkcl, Nat.mul_one]
        have Hn : Hid (m + mk = ((P.take (j + 1)).map (tabK lt)).flatten.length) := by
          show _ = _
          rw [← Hst.out, List.length_append, ← Hm.out, hmk]
        have Hys : Hid (kcells ((P.take j).map (tabK lt)).flatten ++ kcells kk = kcells ((P.take (j + 1)).map (tabK lt)).flatten) := by
          show _ = _
          rw [kcells_app, Hst.out]
        have ho := Ho.out
        have hz := Hb.out.size
        clear hT hte hmk Hmk Hst hkcl hKl hjl d0
        go_wp2_with (first | (at_builtin; refine hold ?_) | (at_make; refine hold ?_))
        (with_reducible refine unhold ?_)
        refine wpList_apd rfl _ _ _ rfl E8 w3.heap.size _ m _ _ rfl ho _ mk _ (kcells kk) rfl hkc1 hk2 (kcells_one kk) (m + mk) rfl _ Hys.out (by omega) (by omega) hz ?_
        intro A5 d5 w9 ho9 hg9 _
        have Hb9 := Lib.hid (Hb.out.grown hg9 hz ho.row_ge)
        have Ho9 := Lib.hid ho9
        clear ho9 hg9 ho hk2
        go_wp2_with fail
        go_roundw
        case rel => exact ⟨j + 1, m + mk, A5, d5, rfl, by go_num, by omega, by omega, Hn, Ho9, Hb9⟩
        case measure => simp [intOf]; omega
      · obtain rfl : j = pn := by omega
        have hX2 : P.take j = P := List.take_of_length_le (by rw [Hpl.out]; exact Nat.le_refl _)
        have Hm2 : Hid (X.length = m) := by
          show _ = _
          rw [HX.out, Hm.out, hX2]
        have Ho2 : Hid (Own wr w3.heap.size 5 1 B m g (kcells X)) := by
          show Own _ _ _ _ _ _ _ _
          have := Ho.out
          rwa [hX2, ← HX.out] at this
        have Hfin := Lib.hid (Hb1.out.trans (Hb.out.mono Hb1.out.size))
        clear hX2
        go_wp2_with fail
        go_ret2
        exact ⟨⟨B, g, by rw [Hm2.out]; rfl, by rw [Hm2.out]; exact Ho2.out.lower Hb1.out.size⟩, Hfin.out⟩
  · have HX2 := Lib.hid (Hnil.out hE)
    have e1 : (E == 0) = false := by rw [beq_eq_false_iff_ne]; exact hE
    have e2 : (E != 0) = true := by simpa using hE
    clear Hnil hE
    go_wp2_with fail
    go_ret2
    exact ⟨⟨none, 0, by rw [HX2.out]; rfl, by rw [HX2.out]; exact Own.nil _ _ _ _⟩, Hb1.out⟩
end Go.Proofs.YtheafcfbahdcfaaDoor
