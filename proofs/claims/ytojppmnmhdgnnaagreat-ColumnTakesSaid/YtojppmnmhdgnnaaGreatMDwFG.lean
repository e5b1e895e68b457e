/- The walk of dict.Of: the words of texts, and of each text its word's place. The walk of the reference's Of (warpref10.Of). -/
import Derived.Test.YtojppmnmhdgnnaaGreatMOwDE
import Derived.Test.YtojppmnmhdgnnaaGreatMDwCD
import Derived.Test.YtojppmnmhdgnnaaGreatMJoMW
namespace Go.Proofs.YtojppmnmhdgnnaaGreat
set_option linter.unusedVariables false
set_option linter.unusedSimpArgs false
open Go.RowKit

attribute [local go_sem ↓] Go.wp_at_zero Go.wp_at_succ

/-- How Of ends. -/
def OfOK (l : List (List UInt8)) (w : World) (e : Ending) (w' : World) : Prop :=
  ((ofM l = none ∧ e = .returned (.tuple #[.slice none 0 0, .slice none 0 0, .int .i64 3])) ∨ ∃ W p A c A2 c2, ofM l = some (W, p) ∧ e = .returned (.tuple #[.slice A W.length c, .slice A2 p.length c2, .int .i64 0]) ∧ Rd w' A (wcl W) ∧ Rd w' A2 (icl p)) ∧ Below w.heap.size w w'

theorem icl_snoc (l : List Int) (x : Int) : icl (l ++ [x]) = icl l ++ [.int .i64 x] := icl_append l [x]

set_option maxHeartbeats 4000000 in
set_option maxRecDepth 100000 in
theorem dof_any (l : List (List UInt8)) (n c : Nat) (A : Option Addr) (w : World) (hl : l.length = n) (hr : Rd w A (wcl l)) (hn : n ≤ 4096) :
    Calls Tryz.prog 91 #[.slice A n c] w fun e w' => OfOK l w e w' := by
  have hco := Lib.hid (longs_any l n c A w hl hr (by omega))
  have hcl := Lib.hid (clone_own l n c A w hl hr (by omega))
  have hof : Hid (ofM l = if longs l = true ∨ 200 < (wordsM l).length then none else some (wordsM l, l.map (placeM (wordsM l)))) := rfl
  have Hl := Lib.hid hl
  have Hr := Lib.hid hr
  have hn6 : ¬ (4096 : Int) < (n : Int) := by omega
  clear hl hr
  cases hlo : longs l
  · rw [hlo] at hco
    have hof1 : Hid (ofM l = if 200 < (wordsM l).length then none else some (wordsM l, l.map (placeM (wordsM l)))) := by
      show _ = _
      rw [hof.out, hlo]
      simp
    clear hof hlo
    go_enter Tryz.func91, Tryz.ntmps91
    go_wp2_with fail
    refine hco.out.mono ?_
    rintro e w1 ⟨rfl, rfl⟩
    go_wp2_with fail
    refine hcl.out.mono ?_
    rintro e w1 ⟨A1, c1, rfl, ho1, hb1⟩
    clear hcl hco
    go_wp2_with fail
    refine (sort_own l A1 n c1 _ w1 ho1 (by omega)).mono ?_
    rintro e w2 ⟨rfl, ho2, hg2⟩
    have hb2 := hb1.grown hg2 hb1.size ho1.row_ge
    clear ho1 hg2 hb1
    go_wp2_with fail
    refine (compact_own (sortW l) A1 n c1 _ w2 ho2 (by omega)).mono ?_
    rintro e w3 ⟨rfl, ho3, hg3⟩
    have hb3 := hb2.grown hg3 hb2.size ho2.row_ge
    clear ho2 hg3 hb2
    have hwm := wordsM_spec l
    change Hid (ofM l = if 200 < (Lib.compact (sortW l)).length then none else some (Lib.compact (sortW l), l.map (placeM (Lib.compact (sortW l))))) at hof1
    change ((Lib.compact (sortW l)).Pairwise (· < ·) ∧ ∀ x, x ∈ Lib.compact (sortW l) ↔ x ∈ l) at hwm
    generalize Lib.compact (sortW l) = W at *
    have hw3 := ho3.rd
    obtain ⟨k, hk⟩ : ∃ k, W.length = k := ⟨_, rfl⟩
    rw [hk] at hof1 ⊢
    have Hk := Lib.hid hk
    have Hw3 := Lib.hid hw3
    have Hb3 := Lib.hid hb3
    have Hwm := Lib.hid hwm
    clear ho3 hk hw3 hb3 hwm
    by_cases h200 : 200 < k
    · have hf : Hid (ofM l = none) := by show _ = _; rw [hof1.out, if_pos h200]
      have h2I : (200 : Int) < (k : Int) := by omega
      go_wp2_with fail
      go_ret3
      exact ⟨.inl ⟨hf.out, rfl⟩, Hb3.out⟩
    · have hf : Hid (ofM l = some (W, l.map (placeM W))) := by show _ = _; rw [hof1.out, if_neg h200]
      have h2I : ¬ (200 : Int) < (k : Int) := by omega
      go_wp2_with fail
      go_loopw [6, 29] (fun vo vi wr => ∃ (j c' : Nat) (A' : Option Addr), vo = .slice A' j c' ∧ vi = .int .i64 (j : Int) ∧ j ≤ n ∧ Hid (Own wr w3.heap.size 3 1 A' j c' (icl ((l.take j).map (placeM W)))) ∧ Hid (Below w3.heap.size w3 wr)) (fun _ vi _ => n - (intOf vi).toNat)
      case atStart => exact ⟨0, 0, none, rfl, rfl, by omega, Own.nil _ _ _ _, Below.refl _ _⟩
      case round =>
        obtain ⟨j, c', A', rfl, rfl, hj, Ho, Hb⟩ := hrel
        by_cases hjn : j < n
        · have hjl : j < l.length := by rw [Hl.out]; exact hjn
          have hjI : (j : Int) < (n : Int) := by omega
          have hj0 : (0 : Int) ≤ (j : Int) := by omega
          have hrw := (Hr.out.below Hb3.out).below Hb.out
          obtain ⟨b, o, rfl, c0⟩ := hrw.word hjl
          have hbs := Lib.hid (bsearch_any W l[j] k c1 A1 wr Hk.out (Hw3.out.below Hb.out) (by omega) Hwm.out.1)
          have Hsn : Hid ((l.take (j + 1)).map (placeM W) = (l.take j).map (placeM W) ++ [((wahd l[j] W : Nat) : Int)]) := by
            show _ = _
            rw [List.take_succ_eq_append_getElem hjl, List.map_append, List.map_singleton, placeM_mem Hwm.out.1 ((Hwm.out.2 _).2 (List.getElem_mem hjl))]
          generalize decide (W[wahd l[j] W]? = some l[j]) = D at *
          generalize wahd l[j] W = P at *
          generalize l[j] = x at *
          clear hrw hjl
          go_wp2_with fail
          refine hbs.out.mono ?_
          rintro e w4 ⟨rfl, rfl⟩
          have hbW : Below wr.heap.size wr (wr.alloc (.cells #[.int .i64 (P : Int)] 3)) := (Below.refl _ _).alloc (Nat.le_refl _) _
          have hnew := (Blk.new wr 3 #[.int .i64 (P : Int)]).range
          have ho5 := Own.below Ho.out hbW
          have hb5 := Hb.out.trans (hbW.mono Hb.out.size)
          have hz5 := hb5.size
          clear hbs hbW
          go_wp2_with (first | (at_builtin; refine hold ?_) | (at_make; refine hold ?_))
          (with_reducible refine unhold ?_)
          refine wpList_apd rfl _ _ _ rfl Eint' w3.heap.size _ j _ (icl ((l.take j).map (placeM W))) rfl ho5 _ 1 _ [.int .i64 (P : Int)] rfl rfl (fun _ => ⟨_, _, rfl, hnew⟩) (by simp [Value.oneCell']) (j + 1) rfl _ rfl (by omega) (by omega) hz5 ?_
          intro A5 c5 w9 ho9 hg9 _
          have Hb9 := Lib.hid (hb5.grown hg9 hb5.size ho5.row_ge)
          have Ho9 : Hid (Own w9 w3.heap.size 3 1 A5 (j + 1) c5 (icl ((l.take (j + 1)).map (placeM W)))) := by
            show Own _ _ _ _ _ _ _ _
            rw [Hsn.out, icl_snoc]
            exact ho9
          clear ho9 hg9 ho5 hb5 hnew Ho Hb Hsn
          go_wp2_with fail
          go_roundw
          case rel => exact ⟨j + 1, c5, A5, rfl, by go_num, by omega, Ho9, Hb9⟩
          case measure => simp only [intOf, Int.toNat_natCast]; omega
        · obtain rfl : j = n := by omega
          go_wp2_with fail
          go_ret3
          refine ⟨.inr ⟨W, l.map (placeM W), A1, c1, A', c', hf.out, ?_, Hw3.out.below Hb.out, ?_⟩, Hb3.out.trans (Hb.out.mono Hb3.out.size)⟩
          · rw [List.length_map, Hl.out, Hk.out]
            rfl
          · have := Ho.out.rd
            rw [List.take_of_length_le (by rw [Hl.out]; exact Nat.le_refl _)] at this
            exact this
  · rw [hlo] at hco
    have hf : Hid (ofM l = none) := by show _ = _; rw [hof.out, if_pos (.inl hlo)]
    clear hof hlo
    go_enter Tryz.func91, Tryz.ntmps91
    go_wp2_with fail
    refine hco.out.mono ?_
    rintro e w1 ⟨rfl, rfl⟩
    go_wp2_with fail
    go_ret3
    exact ⟨.inl ⟨hf.out, rfl⟩, Below.refl _ _⟩
end Go.Proofs.YtojppmnmhdgnnaaGreat
namespace Go.Proofs.YtojppmnmhdgnnaaGreat
set_option linter.unusedVariables false
set_option linter.unusedSimpArgs false
open Go.RowKit

attribute [local go_sem ↓] Go.wp_at_zero Go.wp_at_succ

set_option maxHeartbeats 16000000 in
set_option maxRecDepth 100000 in
theorem drof_any (l : List (List UInt8)) (n c : Nat) (A : Option Addr) (w : World) (hl : l.length = n) (hr : Rd w A (wcl l)) (hn : n ≤ 4096) :
    Calls Tryz.prog 80 #[.slice A n c] w fun e w' => OfOK l w e w' := by
  have hof := Lib.hid (rOf_ofM l)
  have Hl := Lib.hid hl
  have Hr := Lib.hid hr
  have hn6 : ¬ (4096 : Int) < (n : Int) := by omega
  clear hl hr
  go_enter Tryz.func80, Tryz.ntmps80
  go_wp2_with fail
  go_loopw [5, 6] (fun vo vi wr => ∃ (j kk cc : Nat) (A' : Option Addr) (q : List (List UInt8)), vo = .slice A' kk cc ∧ vi = .int .i64 (j : Int) ∧ j ≤ n ∧ kk ≤ 200 ∧ Hid (q.length = kk) ∧ Hid (rOf [] l = rOf q (l.drop j)) ∧ Hid (Own wr w.heap.size 9 1 A' kk cc (wcl q)) ∧ Hid (Below w.heap.size w wr)) (fun _ vi _ => n - (intOf vi).toNat)
  case atStart => exact ⟨0, 0, 0, none, [], rfl, rfl, by omega, by omega, rfl, rfl, Own.nil _ _ _ _, Below.refl _ _⟩
  case round =>
    obtain ⟨j, kk, cc, A', q, rfl, rfl, hj, hk200, Hq, Hf, Ho, Hb⟩ := hrel
    by_cases hjn : j < n
    · have hjI : (j : Int) < (n : Int) := by omega
      have hj0 : (0 : Int) ≤ (j : Int) := by omega
      have hjl : j < l.length := by rw [Hl.out]; exact hjn
      have Hjl := Lib.hid hjl
      have hrw := Hr.out.below Hb.out
      obtain ⟨b, o, rfl, c0⟩ := hrw.word hjl
      have Hf1 : Hid (rOf [] l = if 1024 < l[j].length then none else if l[j] ∈ q then rOf q (l.drop (j + 1)) else if q.length = 200 then none else rOf (insW l[j] q) (l.drop (j + 1))) := by
        show _ = _
        rw [Hf.out, List.drop_eq_getElem_cons hjl]
        rfl
      have hpl := Lib.hid (place_any q l[j] kk cc A' wr Hq.out Ho.out.rd (by omega))
      have hlen := St8_size l[j]
      have hkkc := Ho.out.cap.1
      have hccm : cc ≤ 9223372036854775807 := by have := Ho.out.cap.2; unfold maxLen at this; omega
      have hzo := Hb.out.size
      have hlies : Hid ((A' = none ∧ kk = 0 ∧ cc = 0) ∨ ∃ g, A' = some ⟨g, 0, none⟩) := by
        show _ ∨ _
        rcases Ho.out.lies with ⟨hA, h0, hc0, _⟩ | ⟨g', cur, hA, _⟩
        · exact .inl ⟨hA, h0, hc0⟩
        · exact .inr ⟨g', hA⟩
      generalize wr = wo at *
      have Hxg : Hid (l[j]? = some l[j]) := List.getElem?_eq_getElem hjl
      generalize l[j] = x at *
      have Hxe : Hid (l[j]'Hjl.out = x) := by
        have := Hxg.out
        rw [List.getElem?_eq_getElem Hjl.out] at this
        exact Option.some.inj this
      generalize hL : x.length = L at *
      clear hL hrw hjl Hxg
      by_cases hlo : 1024 < L
      · have hf : Hid (ofM l = none) := by show _ = _; rw [← hof.out, Hf1.out, if_pos hlo]; rfl
        have hloI : (1024 : Int) < (L : Int) := by omega
        go_wp2_with fail
        go_ret3
        exact ⟨.inl ⟨hf.out, rfl⟩, Hb.out⟩
      · have hloI : ¬ (1024 : Int) < (L : Int) := by omega
        by_cases hm : x ∈ q
        · have hf : Hid (rOf [] l = rOf q (l.drop (j + 1))) := by show _ = _; rw [Hf1.out, if_neg hlo, if_pos hm]
          obtain ⟨k, hpk⟩ : ∃ k : Nat, placeM q x = (k : Int) := by
            unfold placeM
            rw [if_pos hm]
            exact ⟨_, rfl⟩
          rw [hpk] at hpl
          clear hm hpk
          go_wp2_with fail
          refine hpl.out.mono ?_
          rintro e w4 ⟨rfl, rfl⟩
          go_wp2_with fail
          go_roundw
          case rel => exact ⟨j + 1, kk, cc, A', q, rfl, by go_num, by omega, by omega, Hq, hf, Ho, Hb⟩
          case measure => simp only [intOf, Int.toNat_natCast]; omega
        · rw [placeM_not hm] at hpl
          by_cases h2 : kk = 200
          · have hf : Hid (ofM l = none) := by show _ = _; rw [← hof.out, Hf1.out, if_neg hlo, if_neg hm, if_pos (by rw [Hq.out]; exact h2)]; rfl
            have h2b : ((kk : Int) == 200) = true := by rw [beq_iff_eq]; omega
            clear hm h2
            go_wp2_with fail
            refine hpl.out.mono ?_
            rintro e w4 ⟨rfl, rfl⟩
            go_wp2_with fail
            go_ret3
            exact ⟨.inl ⟨hf.out, rfl⟩, Hb.out⟩
          · have Hf2 : Hid (rOf [] l = rOf (insW x q) (l.drop (j + 1))) := by show _ = _; rw [Hf1.out, if_neg hlo, if_neg hm, if_neg (by rw [Hq.out]; exact h2)]
            have h2b : ((kk : Int) == 200) = false := by rw [beq_eq_false_iff_ne]; omega
            have Hins : Hid (q.take (wahd x q) ++ x :: q.drop (wahd x q) = insW x q) := by show _ = _; unfold insW; rw [if_neg hm]
            clear hm
            go_wp2_with fail
            refine hpl.out.mono ?_
            rintro e w4 ⟨rfl, rfl⟩
            go_wp2_with fail
            go_loopw [7] (fun v7 wr => ∃ (k d : Nat), v7 = .int .i64 (k : Int) ∧ k ≤ kk ∧ wr = wo.drewN d ∧ Hid (∀ i y, i < k → q[i]? = some y → y < x)) (fun v7 _ => kk - (intOf v7).toNat)
            case atStart => exact ⟨0, 0, rfl, by omega, rfl, fun i y h => absurd h (by omega)⟩
            case round =>
              obtain ⟨k, d, rfl, hk, rfl, Hlo⟩ := hrel
              have hkI0 : (0 : Int) ≤ (k : Int) := by omega
              by_cases hkk : k < kk
              · have hkI : (k : Int) < (kk : Int) := by omega
                have hkq : k < q.length := by rw [Hq.out]; exact hkk
                have hqk := List.getElem?_eq_getElem hkq
                obtain ⟨g, hA⟩ : ∃ g, A' = some ⟨g, 0, none⟩ := by
                  rcases hlies.out with ⟨_, h0, _⟩ | h
                  · omega
                  · exact h
                subst hA
                obtain ⟨g2, og, e2, hcell⟩ := Ho.out.rd.word hkq
                injection e2 with e2
                injection e2 with e3 e4
                subst e3
                subst e4
                have hls := less_St8 q[k] x
                generalize q[k] = y at *
                rw [Nat.zero_add] at hcell
                by_cases hyx : y < x
                · have Hlo2 : Hid (∀ i z, i < k + 1 → q[i]? = some z → z < x) := fun i z hi hz => by
                    by_cases e : i = k
                    · subst e
                      rw [hqk] at hz
                      cases hz
                      exact hyx
                    · exact Hlo.out i z (by omega) hz
                  rw [decide_eq_true hyx] at hls
                  clear hqk hkq Hlo hyx
                  go_wp2_with fail
                  go_quiet (fail)
                  go_wp2_with fail
                  go_roundw
                  case rel => exact ⟨k + 1, d + nq, by go_num, by omega, by first | rfl | rw [World.drewN_drewN], Hlo2⟩
                  case measure => simp only [intOf, Int.toNat_natCast]; omega
                · have Hk : Hid (wahd x q = k) := wahd_at x q k (by omega) Hlo.out (fun z hz => by rw [hqk] at hz; cases hz; exact hyx)
                  rw [decide_eq_false hyx] at hls
                  have hkcc : k < cc := by omega
                  clear hqk hkq Hlo hyx hlies
                  go_wp2_with fail
                  go_quiet (fail)
                  obtain ⟨d2, hd2⟩ : ∃ d2, d2 = d + nq := ⟨_, rfl⟩
                  try rw [World.drewN_drewN]
                  rw [← hd2]
                  clear hd2 hcell hls
                  have HoD : Hid (Own (wo.drewN d2) w.heap.size 9 1 (some ⟨g, 0, none⟩) kk cc (wcl q)) := Ho.out
                  have HbD : Hid (Below w.heap.size w (wo.drewN d2)) := below_drewN' Hb.out d2
                  have ho9 : Own ((wo.drewN d2).alloc (.cells #[] 9)) wo.heap.size 9 1 (some ⟨wo.heap.size, 0, none⟩) 0 0 [] := World.ownsRow_made (wo.drewN d2) #[] 0 (Nat.le_refl _) (by unfold maxLen; omega) rfl
                  have hb9 : Below wo.heap.size (wo.drewN d2) ((wo.drewN d2).alloc (.cells #[] 9)) := Below.alloc (Below.refl wo.heap.size (wo.drewN d2)) (Nat.le_refl wo.heap.size) _
                  have hrd0 : Rd (wo.drewN d2) (some ⟨g, k, none⟩) (wcl (q.drop k)) := by
                    intro hne
                    have hne2 : wcl q ≠ [] := by
                      intro e
                      have e2 : q = [] := List.map_eq_nil_iff.1 e
                      rw [e2] at hne
                      simp [wcl] at hne
                    obtain ⟨g2, o2, e2, h2⟩ := HoD.out.rd hne2
                    cases e2
                    refine ⟨g, k, rfl, fun t v hv => ?_⟩
                    have e : (wcl q)[k + t]? = some v := by
                      unfold wcl at hv ⊢
                      rw [List.map_drop, List.getElem?_drop] at hv
                      exact hv
                    have e3 := h2 (k + t) v e
                    rw [Nat.zero_add] at e3
                    exact e3
                  have hkc : k < cc := hkcc
                  have hkcI : (k : Int) < (cc : Int) := by omega
                  have hneI : ¬ (k : Int) = (cc : Int) := by omega
                  have hneN : ¬ k = cc := by omega
                  have hrd9 : ∀ w2, Below wo.heap.size (wo.drewN d2) w2 → Rd w2 (some ⟨g, k, none⟩) (wcl (q.drop k)) := fun w2 h => hrd0.below h
                  have hkccI : (k : Int) ≤ (cc : Int) := by omega
                  have hkkccI : (kk : Int) ≤ (cc : Int) := by omega
                  have hkk2 : (k : Int) ≤ (kk : Int) := by omega
                  have hk0 : (0 : Int) ≤ (k : Int) := by omega
                  have hql := Hq.out
                  have hdl : (wcl (q.drop k)).length = (kk - k) * 1 := by rw [wcl_len, List.length_drop, hql]; try omega
                  have htl : (q.take k).length = k := by rw [List.length_take, hql]; try omega
                  have htk : (wcl q).take k = wcl (q.take k) := by unfold wcl; rw [List.map_take]
                  have HSH : ∀ w2, Own w2 w.heap.size 9 1 (some ⟨g, 0, none⟩) kk cc (wcl q) → Own w2 w.heap.size 9 1 (some ⟨g, 0, none⟩) k cc (wcl (q.take k)) := fun w2 h => by have := h.shrink (m := k) (by omega) (by simp); rw [htk] at this; exact this
                  have HLT : ∀ b4, (Value.slice (some ⟨g, 0, none⟩) k cc).ownBlock = some b4 → b4 < wo.heap.size := fun b4 h => (Ho.out.lt b4 h).2
                  have hS := c0
                  have HoS := HoD.out
                  go_wp2_with (first | (at_builtin; refine hold ?_) | (at_make; refine hold ?_))
                  (with_reducible refine unhold ?_)
                  refine wpList_apd rfl _ _ _ rfl Estr wo.heap.size _ 0 _ [] rfl ho9 _ (kk - k) _ (wcl (q.drop k)) (by first | rfl | (simp; done)) hdl (hrd9 _ hb9) (wcl_one _) (kk - k) (Nat.zero_add _) (wcl (q.drop k)) rfl (by omega) (by omega) (Nat.le_of_lt (by rw [World.size_alloc]; exact Nat.lt_succ_self _)) ?_
                  intro A6 c6 w9 ho6 hg6 _
                  have hb10 : Below wo.heap.size (wo.drewN d2) w9 := hb9.grown hg6 hb9.size ho9.row_ge
                  have hoO := HoS.below hb10
                  have hoT := HSH w9 hoO
                  have hbT := HbD.out.trans (hb10.mono hzo)
                  have hzT : wo.heap.size ≤ w9.heap.size := hb10.size
                  have hc1 : w9.drew.cell? ⟨b, o + j, none⟩ = some (.string (St8 x)) := cell_keep (w := wo) ((below_drewN' (Below.refl wo.heap.size wo) d2).trans hb10).drew c0
                  clear hg6 hb9 ho9
                  go_wp2_with fail
                  refine wp_region_held_drew (S := fun w' => w'.cell? ⟨b, o + j, none⟩ = some (.string (St8 x))) (by kernel_rfl) hc1 (fun hHeld => ?_)
                  (refine wpAnyH_take (i := 0) (oi := ?oi0_1) (v := ?vv0_1) ?hi0_1 (by kernel_rfl) (by kernel_rfl) (by kernel_rfl) ?hQ0_1 ?hy0_1 (by assumption) ?rest0_1; (case hi0_1 => ((simp only [List.getElem?_toArray, List.getElem?_cons_zero]); rfl)); (case hQ0_1 => exact (fun _ _ _ h => h)); (case hy0_1 => (refine Or.inl ⟨by rfl, ?_⟩; intro w hSw; (try dsimp only at hSw); go_simp; try (with_reducible rfl))); (try simp only [Act.put, List.setIfInBounds_toArray, List.set_cons_zero, List.set_cons_succ]))
                  (refine wpAnyH_take (i := 1) (oi := ?oi1_2) (v := ?vv1_2) ?hi1_2 (by kernel_rfl) (by kernel_rfl) (by kernel_rfl) ?hQ1_2 ?hy1_2 (by assumption) ?rest1_2; (case hi1_2 => ((simp only [List.getElem?_toArray, List.getElem?_cons_succ, List.getElem?_cons_zero]); rfl)); (case hQ1_2 => exact (fun _ _ _ h => h)); (case hy1_2 => (refine Or.inl ⟨by rfl, ?_⟩; intro w hSw; (try dsimp only at hSw); go_simp; try (with_reducible rfl))); (try simp only [Act.put, List.setIfInBounds_toArray, List.set_cons_zero, List.set_cons_succ]))
                  (refine wpAnyH_take (i := 2) (oi := ?oi2_3) (v := ?vv2_3) ?hi2_3 (by kernel_rfl) (by kernel_rfl) (by kernel_rfl) ?hQ2_3 ?hy2_3 (by assumption) ?rest2_3; (case hi2_3 => ((simp only [List.getElem?_toArray, List.getElem?_cons_succ, List.getElem?_cons_zero]); rfl)); (case hQ2_3 => exact (fun _ _ _ h => h)); (case hy2_3 => (refine Or.inl ⟨by rfl, ?_⟩; intro w hSw; (try dsimp only at hSw); go_simp; try (with_reducible rfl))); (try simp only [Act.put, List.setIfInBounds_toArray, List.set_cons_zero, List.set_cons_succ]))
                  (refine wpAnyH_take (i := 3) (oi := ?oi3_4) (v := ?vv3_4) ?hi3_4 (by kernel_rfl) (by kernel_rfl) (by kernel_rfl) ?hQ3_4 ?hy3_4 (by assumption) ?rest3_4; (case hi3_4 => ((simp only [List.getElem?_toArray, List.getElem?_cons_succ, List.getElem?_cons_zero]); rfl)); (case hQ3_4 => exact (fun _ _ _ h => h)); (case hy3_4 => (refine Or.inl ⟨by rfl, ?_⟩; intro w hSw; (try dsimp only at hSw); go_simp; try (with_reducible rfl))); (try simp only [Act.put, List.setIfInBounds_toArray, List.set_cons_zero, List.set_cons_succ]))
                  (refine wpAnyH_take (i := 4) (oi := ?oi4_5) (v := ?vv4_5) ?hi4_5 (by kernel_rfl) (by kernel_rfl) (by kernel_rfl) ?hQ4_5 ?hy4_5 (by assumption) ?rest4_5; (case hi4_5 => ((simp only [List.getElem?_toArray, List.getElem?_cons_succ, List.getElem?_cons_zero]); rfl)); (case hQ4_5 => exact (fun _ _ _ h => h)); (case hy4_5 => (refine Or.inl ⟨by rfl, ?_⟩; intro w hSw; (try dsimp only at hSw); go_simp; try (with_reducible rfl))); (try simp only [Act.put, List.setIfInBounds_toArray, List.set_cons_zero, List.set_cons_succ]))
                  (refine wpAnyH_take (i := 5) (oi := ?oi5_6) (v := ?vv5_6) ?hi5_6 (by kernel_rfl) (by kernel_rfl) (by kernel_rfl) ?hQ5_6 ?hy5_6 (by assumption) ?rest5_6; (case hi5_6 => ((simp only [List.getElem?_toArray, List.getElem?_cons_succ, List.getElem?_cons_zero]); rfl)); (case hQ5_6 => exact (fun _ _ _ h => h)); (case hy5_6 => (refine Or.inl ⟨by rfl, ?_⟩; intro w hSw; (try dsimp only at hSw); go_simp; try (with_reducible rfl))); (try simp only [Act.put, List.setIfInBounds_toArray, List.set_cons_zero, List.set_cons_succ]))
                  (refine wpAnyH_take (i := 6) (oi := ?oi6_7) (v := ?vv6_7) ?hi6_7 (by kernel_rfl) (by kernel_rfl) (by kernel_rfl) ?hQ6_7 ?hy6_7 (by assumption) ?rest6_7; (case hi6_7 => ((simp only [List.getElem?_toArray, List.getElem?_cons_succ, List.getElem?_cons_zero]); rfl)); (case hQ6_7 => exact (fun _ _ _ h => h)); (case hy6_7 => (refine Or.inl ⟨by rfl, ?_⟩; intro w hSw; (try dsimp only at hSw); go_simp; try (with_reducible rfl))); (try simp only [Act.put, List.setIfInBounds_toArray, List.set_cons_zero, List.set_cons_succ]))
                  (refine wpAnyH_ready (rs := [7]) (by kernel_rfl) (by simp) ?_; refine AllReadyH.cons (o := ?oc7_8) ?ho7_8 (fun K hK => ?_) AllReadyH.nil; (case ho7_8 => ((simp only [List.getElem?_toArray, List.getElem?_cons_succ, List.getElem?_cons_zero]); rfl)); go_simp)
                  have hbA : Below w9.heap.size w9.drew (w9.drew.alloc (.cells #[.string (St8 x)] 9)) := Below.alloc (Below.refl w9.heap.size w9.drew) (Nat.le_refl w9.heap.size) _
                  have hnew := (Blk.new w9.drew 9 #[.string (St8 x)]).range
                  have hc2 := cell_keep hbA hc1
                  refine hK.out _ _ hc2 (fun hHeld2 => ?_)
                  clear hK
                  (try simp only [Act.put, List.setIfInBounds_toArray, List.set_cons_zero, List.set_cons_succ])
                  (refine wpAnyH_ready (rs := [8]) (by kernel_rfl) (by simp) ?_; refine AllReadyH.cons (o := ?oc8_9) ?ho8_9 (fun K hK => ?_) AllReadyH.nil; (case ho8_9 => ((simp only [List.getElem?_toArray, List.getElem?_cons_succ, List.getElem?_cons_zero]); rfl)))
                  have hoU : Own (w9.drew.alloc (.cells #[.string (St8 x)] 9)) w.heap.size 9 1 (some ⟨g, 0, none⟩) k cc (wcl (q.take k)) := Own.below (w := w9.drew) hoT hbA
                  have hoR : Own (w9.drew.alloc (.cells #[.string (St8 x)] 9)) wo.heap.size 9 1 A6 (kk - k) c6 (wcl (q.drop k)) := Own.below (w := w9.drew) ho6 hbA
                  have hbU : Below w.heap.size w (w9.drew.alloc (.cells #[.string (St8 x)] 9)) := hbT.drew.trans (hbA.mono hbT.size)
                  have hzU := hbU.size
                  refine step_apd rfl (.tmp 60) (.tmp 65) 27 rfl Estr w.heap.size (some ⟨g, 0, none⟩) k cc (wcl (q.take k)) (by simp [Act.eval, Act.put]) hoU (some ⟨w9.heap.size, 0, none⟩) 1 1 [.string (St8 x)] (by simp [Act.eval, Act.put]) rfl (fun _ => ⟨_, _, rfl, hnew⟩) (by simp [Value.oneCell']) (k + 1) rfl _ rfl (by omega) (by omega) hzU ?_
                  intro A7 c7 w10 ho7 hg7 _
                  have hb7 : Below w.heap.size w w10 := hbU.grown hg7 hzU hoU.row_ge
                  have hc3 : w10.cell? ⟨b, o + j, none⟩ = some (.string (St8 x)) := by
                    obtain ⟨b3, o3, e3, d1⟩ := (Hr.out.below hb7).word Hjl.out
                    injection e3 with e3
                    injection e3 with e4 e5
                    subst e4
                    subst e5
                    rw [Hxe.out] at d1
                    exact d1
                  have hrest : Rd w10 A6 (wcl (q.drop k)) := hoR.rd.grown hg7 (fun b4 o4 e4 e5 => by
                    have h6 := hoT.lt b4 e5.symm
                    have h7 := HLT b4 e5.symm
                    have h8 := ho6.row_ge b4 (by rw [e4]; rfl)
                    omega)
                  refine hK.out _ _ hc3 (fun hHeld3 => ?_)
                  clear hK
                  (try simp only [Act.put, List.setIfInBounds_toArray, List.set_cons_zero, List.set_cons_succ])
                  (refine wpAnyH_take (i := 9) (oi := ?oi9_10) (v := ?vv9_10) ?hi9_10 (by kernel_rfl) (by kernel_rfl) (by kernel_rfl) ?hQ9_10 ?hy9_10 (by assumption) ?rest9_10; (case hi9_10 => ((simp only [List.getElem?_toArray, List.getElem?_cons_succ, List.getElem?_cons_zero]); rfl)); (case hQ9_10 => exact (fun _ _ _ h => h)); (case hy9_10 => (refine Or.inl ⟨by rfl, ?_⟩; intro w hSw; (try dsimp only at hSw); go_simp; try (with_reducible rfl))); (try simp only [Act.put, List.setIfInBounds_toArray, List.set_cons_zero, List.set_cons_succ]))
                  refine wpAnyH_done (by kernel_rfl) ?_ _
                  clear hHeld hHeld2 hHeld3
                  have e7 : wcl (q.take k) ++ [.string (St8 x)] = wcl (q.take k ++ [x]) := by rw [wcl_append]; rfl
                  rw [e7] at ho7
                  clear hg7 hoU hoR hbU hnew hbA hoT hoO ho6 HoS
                  go_wp2_with (first | (at_builtin; refine hold ?_) | (at_make; refine hold ?_))
                  (with_reducible refine unhold ?_)
                  refine wpList_apd rfl _ _ _ rfl Estr w.heap.size _ (k + 1) _ _ rfl ho7 _ (kk - k) _ (wcl (q.drop k)) rfl hdl hrest (wcl_one _) (kk + 1) (by omega) _ rfl (by omega) (by omega) hb7.size ?_
                  intro A8 c8 w11 ho8 hg8 _
                  have Hb8 := Lib.hid (hb7.grown hg8 hb7.size ho7.row_ge)
                  have e8 : wcl (q.take k ++ [x]) ++ wcl (q.drop k) = wcl (q.take k ++ x :: q.drop k) := by rw [← wcl_append, List.append_assoc]; rfl
                  rw [e8] at ho8
                  have Ho8 := Lib.hid ho8
                  have Hq8 : Hid ((q.take k ++ x :: q.drop k).length = kk + 1) := by show _ = _; rw [List.length_append, List.length_cons, List.length_drop, htl, hql]; try omega
                  have Hf8 : Hid (rOf [] l = rOf (q.take k ++ x :: q.drop k) (l.drop (j + 1))) := by
                    show _ = _
                    rw [Hf2.out, ← Hins.out, Hk.out]
                  clear ho8 hg8 ho7 hrest
                  go_wp2_with fail
                  go_roundw
                  case rel => exact ⟨j + 1, kk + 1, c8, A8, _, rfl, by go_num, by omega, by omega, Hq8, Hf8, Ho8, Hb8⟩
                  case measure => simp only [intOf, Int.toNat_natCast]; omega
              · obtain rfl : k = kk := by omega
                have hkI : ¬ (k : Int) < (k : Int) := by omega
                have hqn : q[k]? = none := List.getElem?_eq_none (by rw [Hq.out]; exact Nat.le_refl _)
                have Hk : Hid (wahd x q = k) := wahd_at x q k (by rw [Hq.out]; exact Nat.le_refl _) Hlo.out (fun z hz => by rw [hqn] at hz; cases hz)
                clear hqn Hlo
                go_wp2_with fail
                go_quiet (fail)
                obtain ⟨d2, hd2⟩ : ∃ d2, d2 = d + nq := ⟨_, rfl⟩
                try rw [World.drewN_drewN]
                rw [← hd2]
                clear hd2
                by_cases hkcc : k < cc
                · obtain ⟨g, hA⟩ : ∃ g, A' = some ⟨g, 0, none⟩ := by
                    rcases hlies.out with ⟨_, _, hc0⟩ | h
                    · omega
                    · exact h
                  subst hA
                  have HoD : Hid (Own (wo.drewN d2) w.heap.size 9 1 (some ⟨g, 0, none⟩) k cc (wcl q)) := Ho.out
                  have HbD : Hid (Below w.heap.size w (wo.drewN d2)) := below_drewN' Hb.out d2
                  have ho9 : Own ((wo.drewN d2).alloc (.cells #[] 9)) wo.heap.size 9 1 (some ⟨wo.heap.size, 0, none⟩) 0 0 [] := World.ownsRow_made (wo.drewN d2) #[] 0 (Nat.le_refl _) (by unfold maxLen; omega) rfl
                  have hb9 : Below wo.heap.size (wo.drewN d2) ((wo.drewN d2).alloc (.cells #[] 9)) := Below.alloc (Below.refl wo.heap.size (wo.drewN d2)) (Nat.le_refl wo.heap.size) _
                  have hrd0 : Rd (wo.drewN d2) (some ⟨g, k, none⟩) (wcl (q.drop k)) := by
                    intro hne
                    have hne2 : wcl q ≠ [] := by
                      intro e
                      have e2 : q = [] := List.map_eq_nil_iff.1 e
                      rw [e2] at hne
                      simp [wcl] at hne
                    obtain ⟨g2, o2, e2, h2⟩ := HoD.out.rd hne2
                    cases e2
                    refine ⟨g, k, rfl, fun t v hv => ?_⟩
                    have e : (wcl q)[k + t]? = some v := by
                      unfold wcl at hv ⊢
                      rw [List.map_drop, List.getElem?_drop] at hv
                      exact hv
                    have e3 := h2 (k + t) v e
                    rw [Nat.zero_add] at e3
                    exact e3
                  have hkc : k < cc := hkcc
                  have hkcI : (k : Int) < (cc : Int) := by omega
                  have hneI : ¬ (k : Int) = (cc : Int) := by omega
                  have hneN : ¬ k = cc := by omega
                  have hrd9 : ∀ w2, Below wo.heap.size (wo.drewN d2) w2 → Rd w2 (some ⟨g, k, none⟩) (wcl (q.drop k)) := fun w2 h => hrd0.below h
                  have hkccI : (k : Int) ≤ (cc : Int) := by omega
                  have hkkccI : (k : Int) ≤ (cc : Int) := by omega
                  have hkk2 : (k : Int) ≤ (k : Int) := by omega
                  have hk0 : (0 : Int) ≤ (k : Int) := by omega
                  have hql := Hq.out
                  have hdl : (wcl (q.drop k)).length = 0 * 1 := by rw [wcl_len, List.length_drop, hql]; try omega
                  have htl : (q.take k).length = k := by rw [List.length_take, hql]; try omega
                  have htk : (wcl q).take k = wcl (q.take k) := by unfold wcl; rw [List.map_take]
                  have HSH : ∀ w2, Own w2 w.heap.size 9 1 (some ⟨g, 0, none⟩) k cc (wcl q) → Own w2 w.heap.size 9 1 (some ⟨g, 0, none⟩) k cc (wcl (q.take k)) := fun w2 h => by have := h.shrink (m := k) (by omega) (by simp); rw [htk] at this; exact this
                  have HLT : ∀ b4, (Value.slice (some ⟨g, 0, none⟩) k cc).ownBlock = some b4 → b4 < wo.heap.size := fun b4 h => (Ho.out.lt b4 h).2
                  have hS := c0
                  have HoS := HoD.out
                  go_wp2_with (first | (at_builtin; refine hold ?_) | (at_make; refine hold ?_))
                  (with_reducible refine unhold ?_)
                  refine wpList_apd rfl _ _ _ rfl Estr wo.heap.size _ 0 _ [] rfl ho9 _ 0 _ (wcl (q.drop k)) (by first | rfl | (simp; done)) hdl (hrd9 _ hb9) (wcl_one _) 0 (Nat.zero_add _) (wcl (q.drop k)) rfl (by omega) (by omega) (Nat.le_of_lt (by rw [World.size_alloc]; exact Nat.lt_succ_self _)) ?_
                  intro A6 c6 w9 ho6 hg6 _
                  have hb10 : Below wo.heap.size (wo.drewN d2) w9 := hb9.grown hg6 hb9.size ho9.row_ge
                  have hoO := HoS.below hb10
                  have hoT := HSH w9 hoO
                  have hbT := HbD.out.trans (hb10.mono hzo)
                  have hzT : wo.heap.size ≤ w9.heap.size := hb10.size
                  have hc1 : w9.drew.cell? ⟨b, o + j, none⟩ = some (.string (St8 x)) := cell_keep (w := wo) ((below_drewN' (Below.refl wo.heap.size wo) d2).trans hb10).drew c0
                  clear hg6 hb9 ho9
                  go_wp2_with fail
                  refine wp_region_held_drew (S := fun w' => w'.cell? ⟨b, o + j, none⟩ = some (.string (St8 x))) (by kernel_rfl) hc1 (fun hHeld => ?_)
                  (refine wpAnyH_take (i := 0) (oi := ?oi0_11) (v := ?vv0_11) ?hi0_11 (by kernel_rfl) (by kernel_rfl) (by kernel_rfl) ?hQ0_11 ?hy0_11 (by assumption) ?rest0_11; (case hi0_11 => ((simp only [List.getElem?_toArray, List.getElem?_cons_zero]); rfl)); (case hQ0_11 => exact (fun _ _ _ h => h)); (case hy0_11 => (refine Or.inl ⟨by rfl, ?_⟩; intro w hSw; (try dsimp only at hSw); go_simp; try (with_reducible rfl))); (try simp only [Act.put, List.setIfInBounds_toArray, List.set_cons_zero, List.set_cons_succ]))
                  (refine wpAnyH_take (i := 1) (oi := ?oi1_12) (v := ?vv1_12) ?hi1_12 (by kernel_rfl) (by kernel_rfl) (by kernel_rfl) ?hQ1_12 ?hy1_12 (by assumption) ?rest1_12; (case hi1_12 => ((simp only [List.getElem?_toArray, List.getElem?_cons_succ, List.getElem?_cons_zero]); rfl)); (case hQ1_12 => exact (fun _ _ _ h => h)); (case hy1_12 => (refine Or.inl ⟨by rfl, ?_⟩; intro w hSw; (try dsimp only at hSw); go_simp; try (with_reducible rfl))); (try simp only [Act.put, List.setIfInBounds_toArray, List.set_cons_zero, List.set_cons_succ]))
                  (refine wpAnyH_take (i := 2) (oi := ?oi2_13) (v := ?vv2_13) ?hi2_13 (by kernel_rfl) (by kernel_rfl) (by kernel_rfl) ?hQ2_13 ?hy2_13 (by assumption) ?rest2_13; (case hi2_13 => ((simp only [List.getElem?_toArray, List.getElem?_cons_succ, List.getElem?_cons_zero]); rfl)); (case hQ2_13 => exact (fun _ _ _ h => h)); (case hy2_13 => (refine Or.inl ⟨by rfl, ?_⟩; intro w hSw; (try dsimp only at hSw); go_simp; try (with_reducible rfl))); (try simp only [Act.put, List.setIfInBounds_toArray, List.set_cons_zero, List.set_cons_succ]))
                  (refine wpAnyH_take (i := 3) (oi := ?oi3_14) (v := ?vv3_14) ?hi3_14 (by kernel_rfl) (by kernel_rfl) (by kernel_rfl) ?hQ3_14 ?hy3_14 (by assumption) ?rest3_14; (case hi3_14 => ((simp only [List.getElem?_toArray, List.getElem?_cons_succ, List.getElem?_cons_zero]); rfl)); (case hQ3_14 => exact (fun _ _ _ h => h)); (case hy3_14 => (refine Or.inl ⟨by rfl, ?_⟩; intro w hSw; (try dsimp only at hSw); go_simp; try (with_reducible rfl))); (try simp only [Act.put, List.setIfInBounds_toArray, List.set_cons_zero, List.set_cons_succ]))
                  (refine wpAnyH_take (i := 4) (oi := ?oi4_15) (v := ?vv4_15) ?hi4_15 (by kernel_rfl) (by kernel_rfl) (by kernel_rfl) ?hQ4_15 ?hy4_15 (by assumption) ?rest4_15; (case hi4_15 => ((simp only [List.getElem?_toArray, List.getElem?_cons_succ, List.getElem?_cons_zero]); rfl)); (case hQ4_15 => exact (fun _ _ _ h => h)); (case hy4_15 => (refine Or.inl ⟨by rfl, ?_⟩; intro w hSw; (try dsimp only at hSw); go_simp; try (with_reducible rfl))); (try simp only [Act.put, List.setIfInBounds_toArray, List.set_cons_zero, List.set_cons_succ]))
                  (refine wpAnyH_take (i := 5) (oi := ?oi5_16) (v := ?vv5_16) ?hi5_16 (by kernel_rfl) (by kernel_rfl) (by kernel_rfl) ?hQ5_16 ?hy5_16 (by assumption) ?rest5_16; (case hi5_16 => ((simp only [List.getElem?_toArray, List.getElem?_cons_succ, List.getElem?_cons_zero]); rfl)); (case hQ5_16 => exact (fun _ _ _ h => h)); (case hy5_16 => (refine Or.inl ⟨by rfl, ?_⟩; intro w hSw; (try dsimp only at hSw); go_simp; try (with_reducible rfl))); (try simp only [Act.put, List.setIfInBounds_toArray, List.set_cons_zero, List.set_cons_succ]))
                  (refine wpAnyH_take (i := 6) (oi := ?oi6_17) (v := ?vv6_17) ?hi6_17 (by kernel_rfl) (by kernel_rfl) (by kernel_rfl) ?hQ6_17 ?hy6_17 (by assumption) ?rest6_17; (case hi6_17 => ((simp only [List.getElem?_toArray, List.getElem?_cons_succ, List.getElem?_cons_zero]); rfl)); (case hQ6_17 => exact (fun _ _ _ h => h)); (case hy6_17 => (refine Or.inl ⟨by rfl, ?_⟩; intro w hSw; (try dsimp only at hSw); go_simp; try (with_reducible rfl))); (try simp only [Act.put, List.setIfInBounds_toArray, List.set_cons_zero, List.set_cons_succ]))
                  (refine wpAnyH_ready (rs := [7]) (by kernel_rfl) (by simp) ?_; refine AllReadyH.cons (o := ?oc7_18) ?ho7_18 (fun K hK => ?_) AllReadyH.nil; (case ho7_18 => ((simp only [List.getElem?_toArray, List.getElem?_cons_succ, List.getElem?_cons_zero]); rfl)); go_simp)
                  have hbA : Below w9.heap.size w9.drew (w9.drew.alloc (.cells #[.string (St8 x)] 9)) := Below.alloc (Below.refl w9.heap.size w9.drew) (Nat.le_refl w9.heap.size) _
                  have hnew := (Blk.new w9.drew 9 #[.string (St8 x)]).range
                  have hc2 := cell_keep hbA hc1
                  refine hK.out _ _ hc2 (fun hHeld2 => ?_)
                  clear hK
                  (try simp only [Act.put, List.setIfInBounds_toArray, List.set_cons_zero, List.set_cons_succ])
                  (refine wpAnyH_ready (rs := [8]) (by kernel_rfl) (by simp) ?_; refine AllReadyH.cons (o := ?oc8_19) ?ho8_19 (fun K hK => ?_) AllReadyH.nil; (case ho8_19 => ((simp only [List.getElem?_toArray, List.getElem?_cons_succ, List.getElem?_cons_zero]); rfl)))
                  have hoU : Own (w9.drew.alloc (.cells #[.string (St8 x)] 9)) w.heap.size 9 1 (some ⟨g, 0, none⟩) k cc (wcl (q.take k)) := Own.below (w := w9.drew) hoT hbA
                  have hoR : Own (w9.drew.alloc (.cells #[.string (St8 x)] 9)) wo.heap.size 9 1 A6 0 c6 (wcl (q.drop k)) := Own.below (w := w9.drew) ho6 hbA
                  have hbU : Below w.heap.size w (w9.drew.alloc (.cells #[.string (St8 x)] 9)) := hbT.drew.trans (hbA.mono hbT.size)
                  have hzU := hbU.size
                  refine step_apd rfl (.tmp 60) (.tmp 65) 27 rfl Estr w.heap.size (some ⟨g, 0, none⟩) k cc (wcl (q.take k)) (by simp [Act.eval, Act.put]) hoU (some ⟨w9.heap.size, 0, none⟩) 1 1 [.string (St8 x)] (by simp [Act.eval, Act.put]) rfl (fun _ => ⟨_, _, rfl, hnew⟩) (by simp [Value.oneCell']) (k + 1) rfl _ rfl (by omega) (by omega) hzU ?_
                  intro A7 c7 w10 ho7 hg7 _
                  have hb7 : Below w.heap.size w w10 := hbU.grown hg7 hzU hoU.row_ge
                  have hc3 : w10.cell? ⟨b, o + j, none⟩ = some (.string (St8 x)) := by
                    obtain ⟨b3, o3, e3, d1⟩ := (Hr.out.below hb7).word Hjl.out
                    injection e3 with e3
                    injection e3 with e4 e5
                    subst e4
                    subst e5
                    rw [Hxe.out] at d1
                    exact d1
                  have hrest : Rd w10 A6 (wcl (q.drop k)) := hoR.rd.grown hg7 (fun b4 o4 e4 e5 => by
                    have h6 := hoT.lt b4 e5.symm
                    have h7 := HLT b4 e5.symm
                    have h8 := ho6.row_ge b4 (by rw [e4]; rfl)
                    omega)
                  refine hK.out _ _ hc3 (fun hHeld3 => ?_)
                  clear hK
                  (try simp only [Act.put, List.setIfInBounds_toArray, List.set_cons_zero, List.set_cons_succ])
                  (refine wpAnyH_take (i := 9) (oi := ?oi9_20) (v := ?vv9_20) ?hi9_20 (by kernel_rfl) (by kernel_rfl) (by kernel_rfl) ?hQ9_20 ?hy9_20 (by assumption) ?rest9_20; (case hi9_20 => ((simp only [List.getElem?_toArray, List.getElem?_cons_succ, List.getElem?_cons_zero]); rfl)); (case hQ9_20 => exact (fun _ _ _ h => h)); (case hy9_20 => (refine Or.inl ⟨by rfl, ?_⟩; intro w hSw; (try dsimp only at hSw); go_simp; try (with_reducible rfl))); (try simp only [Act.put, List.setIfInBounds_toArray, List.set_cons_zero, List.set_cons_succ]))
                  refine wpAnyH_done (by kernel_rfl) ?_ _
                  clear hHeld hHeld2 hHeld3
                  have e7 : wcl (q.take k) ++ [.string (St8 x)] = wcl (q.take k ++ [x]) := by rw [wcl_append]; rfl
                  rw [e7] at ho7
                  clear hg7 hoU hoR hbU hnew hbA hoT hoO ho6 HoS
                  go_wp2_with (first | (at_builtin; refine hold ?_) | (at_make; refine hold ?_))
                  (with_reducible refine unhold ?_)
                  refine wpList_apd rfl _ _ _ rfl Estr w.heap.size _ (k + 1) _ _ rfl ho7 _ 0 _ (wcl (q.drop k)) rfl hdl hrest (wcl_one _) (k + 1) (by omega) _ rfl (by omega) (by omega) hb7.size ?_
                  intro A8 c8 w11 ho8 hg8 _
                  have Hb8 := Lib.hid (hb7.grown hg8 hb7.size ho7.row_ge)
                  have e8 : wcl (q.take k ++ [x]) ++ wcl (q.drop k) = wcl (q.take k ++ x :: q.drop k) := by rw [← wcl_append, List.append_assoc]; rfl
                  rw [e8] at ho8
                  have Ho8 := Lib.hid ho8
                  have Hq8 : Hid ((q.take k ++ x :: q.drop k).length = k + 1) := by show _ = _; rw [List.length_append, List.length_cons, List.length_drop, htl, hql]; try omega
                  have Hf8 : Hid (rOf [] l = rOf (q.take k ++ x :: q.drop k) (l.drop (j + 1))) := by
                    show _ = _
                    rw [Hf2.out, ← Hins.out, Hk.out]
                  clear ho8 hg8 ho7 hrest
                  go_wp2_with fail
                  go_roundw
                  case rel => exact ⟨j + 1, k + 1, c8, A8, _, rfl, by go_num, by omega, by omega, Hq8, Hf8, Ho8, Hb8⟩
                  case measure => simp only [intOf, Int.toNat_natCast]; omega
                · obtain rfl : k = cc := by omega
                  rcases hlies.out with ⟨hA, h0, _⟩ | ⟨g, hA⟩
                  · subst hA
                    subst h0
                    have HoD : Hid (Own (wo.drewN d2) w.heap.size 9 1 none 0 0 (wcl q)) := Ho.out
                    have HbD : Hid (Below w.heap.size w (wo.drewN d2)) := below_drewN' Hb.out d2
                    have ho9 : Own ((wo.drewN d2).alloc (.cells #[] 9)) wo.heap.size 9 1 (some ⟨wo.heap.size, 0, none⟩) 0 0 [] := World.ownsRow_made (wo.drewN d2) #[] 0 (Nat.le_refl _) (by unfold maxLen; omega) rfl
                    have hb9 : Below wo.heap.size (wo.drewN d2) ((wo.drewN d2).alloc (.cells #[] 9)) := Below.alloc (Below.refl wo.heap.size (wo.drewN d2)) (Nat.le_refl wo.heap.size) _
                    have hrd0 : Rd (wo.drewN d2) none (wcl (q.drop 0)) := by
                      rw [List.drop_eq_nil_of_le (by rw [Hq.out]; omega)]
                      exact Rd.nil _ _
                    have hrd9 : ∀ w2, Below wo.heap.size (wo.drewN d2) w2 → Rd w2 none (wcl (q.drop 0)) := fun w2 h => hrd0.below h
                    have hkccI : (0 : Int) ≤ (0 : Int) := by omega
                    have hkkccI : (0 : Int) ≤ (0 : Int) := by omega
                    have hkk2 : (0 : Int) ≤ (0 : Int) := by omega
                    have hk0 : (0 : Int) ≤ (0 : Int) := by omega
                    have hql := Hq.out
                    have hdl : (wcl (q.drop 0)).length = 0 * 1 := by rw [wcl_len, List.length_drop, hql]; try omega
                    have htl : (q.take 0).length = 0 := by rw [List.length_take, hql]; try omega
                    have htk : (wcl q).take 0 = wcl (q.take 0) := by unfold wcl; rw [List.map_take]
                    have HSH : ∀ w2, Own w2 w.heap.size 9 1 none 0 0 (wcl q) → Own w2 w.heap.size 9 1 none 0 0 (wcl (q.take 0)) := fun w2 h => by
                      have e1 : 0 = 0 := by omega
                      have e2 : 0 = 0 := by omega
                      have e3 : q = [] := List.eq_nil_of_length_eq_zero (by rw [hql]; try exact e2)
                      rw [e3, e1]
                      rw [e3, e2] at h
                      exact h
                    have HLT : ∀ b4, (Value.slice none 0 0).ownBlock = some b4 → b4 < wo.heap.size := fun b4 h => (Ho.out.lt b4 (by rw [← h]; try rfl)).2
                    have hS := c0
                    have HoS := HoD.out
                    go_wp2_with (first | (at_builtin; refine hold ?_) | (at_make; refine hold ?_))
                    (with_reducible refine unhold ?_)
                    refine wpList_apd rfl _ _ _ rfl Estr wo.heap.size _ 0 _ [] rfl ho9 _ 0 _ (wcl (q.drop 0)) (by first | rfl | (simp; done)) hdl (hrd9 _ hb9) (wcl_one _) 0 (Nat.zero_add _) (wcl (q.drop 0)) rfl (by omega) (by omega) (Nat.le_of_lt (by rw [World.size_alloc]; exact Nat.lt_succ_self _)) ?_
                    intro A6 c6 w9 ho6 hg6 _
                    have hb10 : Below wo.heap.size (wo.drewN d2) w9 := hb9.grown hg6 hb9.size ho9.row_ge
                    have hoO := HoS.below hb10
                    have hoT := HSH w9 hoO
                    have hbT := HbD.out.trans (hb10.mono hzo)
                    have hzT : wo.heap.size ≤ w9.heap.size := hb10.size
                    have hc1 : w9.drew.cell? ⟨b, o + j, none⟩ = some (.string (St8 x)) := cell_keep (w := wo) ((below_drewN' (Below.refl wo.heap.size wo) d2).trans hb10).drew c0
                    clear hg6 hb9 ho9
                    go_wp2_with fail
                    refine wp_region_held_drew (S := fun w' => w'.cell? ⟨b, o + j, none⟩ = some (.string (St8 x))) (by kernel_rfl) hc1 (fun hHeld => ?_)
                    (refine wpAnyH_take (i := 0) (oi := ?oi0_21) (v := ?vv0_21) ?hi0_21 (by kernel_rfl) (by kernel_rfl) (by kernel_rfl) ?hQ0_21 ?hy0_21 (by assumption) ?rest0_21; (case hi0_21 => ((simp only [List.getElem?_toArray, List.getElem?_cons_zero]); rfl)); (case hQ0_21 => exact (fun _ _ _ h => h)); (case hy0_21 => (refine Or.inl ⟨by rfl, ?_⟩; intro w hSw; (try dsimp only at hSw); go_simp; try (with_reducible rfl))); (try simp only [Act.put, List.setIfInBounds_toArray, List.set_cons_zero, List.set_cons_succ]))
                    (refine wpAnyH_take (i := 1) (oi := ?oi1_22) (v := ?vv1_22) ?hi1_22 (by kernel_rfl) (by kernel_rfl) (by kernel_rfl) ?hQ1_22 ?hy1_22 (by assumption) ?rest1_22; (case hi1_22 => ((simp only [List.getElem?_toArray, List.getElem?_cons_succ, List.getElem?_cons_zero]); rfl)); (case hQ1_22 => exact (fun _ _ _ h => h)); (case hy1_22 => (refine Or.inl ⟨by rfl, ?_⟩; intro w hSw; (try dsimp only at hSw); go_simp; try (with_reducible rfl))); (try simp only [Act.put, List.setIfInBounds_toArray, List.set_cons_zero, List.set_cons_succ]))
                    (refine wpAnyH_take (i := 2) (oi := ?oi2_23) (v := ?vv2_23) ?hi2_23 (by kernel_rfl) (by kernel_rfl) (by kernel_rfl) ?hQ2_23 ?hy2_23 (by assumption) ?rest2_23; (case hi2_23 => ((simp only [List.getElem?_toArray, List.getElem?_cons_succ, List.getElem?_cons_zero]); rfl)); (case hQ2_23 => exact (fun _ _ _ h => h)); (case hy2_23 => (refine Or.inl ⟨by rfl, ?_⟩; intro w hSw; (try dsimp only at hSw); go_simp; try (with_reducible rfl))); (try simp only [Act.put, List.setIfInBounds_toArray, List.set_cons_zero, List.set_cons_succ]))
                    (refine wpAnyH_take (i := 3) (oi := ?oi3_24) (v := ?vv3_24) ?hi3_24 (by kernel_rfl) (by kernel_rfl) (by kernel_rfl) ?hQ3_24 ?hy3_24 (by assumption) ?rest3_24; (case hi3_24 => ((simp only [List.getElem?_toArray, List.getElem?_cons_succ, List.getElem?_cons_zero]); rfl)); (case hQ3_24 => exact (fun _ _ _ h => h)); (case hy3_24 => (refine Or.inl ⟨by rfl, ?_⟩; intro w hSw; (try dsimp only at hSw); go_simp; try (with_reducible rfl))); (try simp only [Act.put, List.setIfInBounds_toArray, List.set_cons_zero, List.set_cons_succ]))
                    (refine wpAnyH_take (i := 4) (oi := ?oi4_25) (v := ?vv4_25) ?hi4_25 (by kernel_rfl) (by kernel_rfl) (by kernel_rfl) ?hQ4_25 ?hy4_25 (by assumption) ?rest4_25; (case hi4_25 => ((simp only [List.getElem?_toArray, List.getElem?_cons_succ, List.getElem?_cons_zero]); rfl)); (case hQ4_25 => exact (fun _ _ _ h => h)); (case hy4_25 => (refine Or.inl ⟨by rfl, ?_⟩; intro w hSw; (try dsimp only at hSw); go_simp; try (with_reducible rfl))); (try simp only [Act.put, List.setIfInBounds_toArray, List.set_cons_zero, List.set_cons_succ]))
                    (refine wpAnyH_take (i := 5) (oi := ?oi5_26) (v := ?vv5_26) ?hi5_26 (by kernel_rfl) (by kernel_rfl) (by kernel_rfl) ?hQ5_26 ?hy5_26 (by assumption) ?rest5_26; (case hi5_26 => ((simp only [List.getElem?_toArray, List.getElem?_cons_succ, List.getElem?_cons_zero]); rfl)); (case hQ5_26 => exact (fun _ _ _ h => h)); (case hy5_26 => (refine Or.inl ⟨by rfl, ?_⟩; intro w hSw; (try dsimp only at hSw); go_simp; try (with_reducible rfl))); (try simp only [Act.put, List.setIfInBounds_toArray, List.set_cons_zero, List.set_cons_succ]))
                    (refine wpAnyH_take (i := 6) (oi := ?oi6_27) (v := ?vv6_27) ?hi6_27 (by kernel_rfl) (by kernel_rfl) (by kernel_rfl) ?hQ6_27 ?hy6_27 (by assumption) ?rest6_27; (case hi6_27 => ((simp only [List.getElem?_toArray, List.getElem?_cons_succ, List.getElem?_cons_zero]); rfl)); (case hQ6_27 => exact (fun _ _ _ h => h)); (case hy6_27 => (refine Or.inl ⟨by rfl, ?_⟩; intro w hSw; (try dsimp only at hSw); go_simp; try (with_reducible rfl))); (try simp only [Act.put, List.setIfInBounds_toArray, List.set_cons_zero, List.set_cons_succ]))
                    (refine wpAnyH_ready (rs := [7]) (by kernel_rfl) (by simp) ?_; refine AllReadyH.cons (o := ?oc7_28) ?ho7_28 (fun K hK => ?_) AllReadyH.nil; (case ho7_28 => ((simp only [List.getElem?_toArray, List.getElem?_cons_succ, List.getElem?_cons_zero]); rfl)); go_simp)
                    have hbA : Below w9.heap.size w9.drew (w9.drew.alloc (.cells #[.string (St8 x)] 9)) := Below.alloc (Below.refl w9.heap.size w9.drew) (Nat.le_refl w9.heap.size) _
                    have hnew := (Blk.new w9.drew 9 #[.string (St8 x)]).range
                    have hc2 := cell_keep hbA hc1
                    refine hK.out _ _ hc2 (fun hHeld2 => ?_)
                    clear hK
                    (try simp only [Act.put, List.setIfInBounds_toArray, List.set_cons_zero, List.set_cons_succ])
                    (refine wpAnyH_ready (rs := [8]) (by kernel_rfl) (by simp) ?_; refine AllReadyH.cons (o := ?oc8_29) ?ho8_29 (fun K hK => ?_) AllReadyH.nil; (case ho8_29 => ((simp only [List.getElem?_toArray, List.getElem?_cons_succ, List.getElem?_cons_zero]); rfl)))
                    have hoU : Own (w9.drew.alloc (.cells #[.string (St8 x)] 9)) w.heap.size 9 1 none 0 0 (wcl (q.take 0)) := Own.below (w := w9.drew) hoT hbA
                    have hoR : Own (w9.drew.alloc (.cells #[.string (St8 x)] 9)) wo.heap.size 9 1 A6 0 c6 (wcl (q.drop 0)) := Own.below (w := w9.drew) ho6 hbA
                    have hbU : Below w.heap.size w (w9.drew.alloc (.cells #[.string (St8 x)] 9)) := hbT.drew.trans (hbA.mono hbT.size)
                    have hzU := hbU.size
                    refine step_apd rfl (.tmp 60) (.tmp 65) 27 rfl Estr w.heap.size none 0 0 (wcl (q.take 0)) (by simp [Act.eval, Act.put]) hoU (some ⟨w9.heap.size, 0, none⟩) 1 1 [.string (St8 x)] (by simp [Act.eval, Act.put]) rfl (fun _ => ⟨_, _, rfl, hnew⟩) (by simp [Value.oneCell']) (0 + 1) rfl _ rfl (by omega) (by omega) hzU ?_
                    intro A7 c7 w10 ho7 hg7 _
                    have hb7 : Below w.heap.size w w10 := hbU.grown hg7 hzU hoU.row_ge
                    have hc3 : w10.cell? ⟨b, o + j, none⟩ = some (.string (St8 x)) := by
                      obtain ⟨b3, o3, e3, d1⟩ := (Hr.out.below hb7).word Hjl.out
                      injection e3 with e3
                      injection e3 with e4 e5
                      subst e4
                      subst e5
                      rw [Hxe.out] at d1
                      exact d1
                    have hrest : Rd w10 A6 (wcl (q.drop 0)) := hoR.rd.grown hg7 (fun b4 o4 e4 e5 => by
                      have h6 := hoT.lt b4 e5.symm
                      have h7 := HLT b4 e5.symm
                      have h8 := ho6.row_ge b4 (by rw [e4]; rfl)
                      omega)
                    refine hK.out _ _ hc3 (fun hHeld3 => ?_)
                    clear hK
                    (try simp only [Act.put, List.setIfInBounds_toArray, List.set_cons_zero, List.set_cons_succ])
                    (refine wpAnyH_take (i := 9) (oi := ?oi9_30) (v := ?vv9_30) ?hi9_30 (by kernel_rfl) (by kernel_rfl) (by kernel_rfl) ?hQ9_30 ?hy9_30 (by assumption) ?rest9_30; (case hi9_30 => ((simp only [List.getElem?_toArray, List.getElem?_cons_succ, List.getElem?_cons_zero]); rfl)); (case hQ9_30 => exact (fun _ _ _ h => h)); (case hy9_30 => (refine Or.inl ⟨by rfl, ?_⟩; intro w hSw; (try dsimp only at hSw); go_simp; try (with_reducible rfl))); (try simp only [Act.put, List.setIfInBounds_toArray, List.set_cons_zero, List.set_cons_succ]))
                    refine wpAnyH_done (by kernel_rfl) ?_ _
                    clear hHeld hHeld2 hHeld3
                    have e7 : wcl (q.take 0) ++ [.string (St8 x)] = wcl (q.take 0 ++ [x]) := by rw [wcl_append]; rfl
                    rw [e7] at ho7
                    clear hg7 hoU hoR hbU hnew hbA hoT hoO ho6 HoS
                    go_wp2_with (first | (at_builtin; refine hold ?_) | (at_make; refine hold ?_))
                    (with_reducible refine unhold ?_)
                    refine wpList_apd rfl _ _ _ rfl Estr w.heap.size _ (0 + 1) _ _ rfl ho7 _ 0 _ (wcl (q.drop 0)) rfl hdl hrest (wcl_one _) (0 + 1) (by omega) _ rfl (by omega) (by omega) hb7.size ?_
                    intro A8 c8 w11 ho8 hg8 _
                    have Hb8 := Lib.hid (hb7.grown hg8 hb7.size ho7.row_ge)
                    have e8 : wcl (q.take 0 ++ [x]) ++ wcl (q.drop 0) = wcl (q.take 0 ++ x :: q.drop 0) := by rw [← wcl_append, List.append_assoc]; rfl
                    rw [e8] at ho8
                    have Ho8 := Lib.hid ho8
                    have Hq8 : Hid ((q.take 0 ++ x :: q.drop 0).length = 0 + 1) := by show _ = _; rw [List.length_append, List.length_cons, List.length_drop, htl, hql]; try omega
                    have Hf8 : Hid (rOf [] l = rOf (q.take 0 ++ x :: q.drop 0) (l.drop (j + 1))) := by
                      show _ = _
                      rw [Hf2.out, ← Hins.out, Hk.out]
                    clear ho8 hg8 ho7 hrest
                    go_wp2_with fail
                    go_roundw
                    case rel => exact ⟨j + 1, 0 + 1, c8, A8, _, rfl, by go_num, by omega, by omega, Hq8, Hf8, Ho8, Hb8⟩
                    case measure => simp only [intOf, Int.toNat_natCast]; omega
                  · subst hA
                    have HoD : Hid (Own (wo.drewN d2) w.heap.size 9 1 (some ⟨g, 0, none⟩) k k (wcl q)) := Ho.out
                    have HbD : Hid (Below w.heap.size w (wo.drewN d2)) := below_drewN' Hb.out d2
                    have ho9 : Own ((wo.drewN d2).alloc (.cells #[] 9)) wo.heap.size 9 1 (some ⟨wo.heap.size, 0, none⟩) 0 0 [] := World.ownsRow_made (wo.drewN d2) #[] 0 (Nat.le_refl _) (by unfold maxLen; omega) rfl
                    have hb9 : Below wo.heap.size (wo.drewN d2) ((wo.drewN d2).alloc (.cells #[] 9)) := Below.alloc (Below.refl wo.heap.size (wo.drewN d2)) (Nat.le_refl wo.heap.size) _
                    have hrd0 : Rd (wo.drewN d2) (some ⟨g, 0, none⟩) (wcl (q.drop k)) := by
                      rw [List.drop_eq_nil_of_le (by rw [Hq.out]; omega)]
                      exact Rd.nil _ _
                    have hrd9 : ∀ w2, Below wo.heap.size (wo.drewN d2) w2 → Rd w2 (some ⟨g, 0, none⟩) (wcl (q.drop k)) := fun w2 h => hrd0.below h
                    have hkccI : (k : Int) ≤ (k : Int) := by omega
                    have hkkccI : (k : Int) ≤ (k : Int) := by omega
                    have hkk2 : (k : Int) ≤ (k : Int) := by omega
                    have hk0 : (0 : Int) ≤ (k : Int) := by omega
                    have hql := Hq.out
                    have hdl : (wcl (q.drop k)).length = 0 * 1 := by rw [wcl_len, List.length_drop, hql]; try omega
                    have htl : (q.take k).length = k := by rw [List.length_take, hql]; try omega
                    have htk : (wcl q).take k = wcl (q.take k) := by unfold wcl; rw [List.map_take]
                    have HSH : ∀ w2, Own w2 w.heap.size 9 1 (some ⟨g, 0, none⟩) k k (wcl q) → Own w2 w.heap.size 9 1 (some ⟨g, 0, none⟩) k k (wcl (q.take k)) := fun w2 h => by have := h.shrink (m := k) (by omega) (by simp); rw [htk] at this; exact this
                    have HLT : ∀ b4, (Value.slice (some ⟨g, 0, none⟩) k k).ownBlock = some b4 → b4 < wo.heap.size := fun b4 h => (Ho.out.lt b4 h).2
                    have hS := c0
                    have HoS := HoD.out
                    go_wp2_with (first | (at_builtin; refine hold ?_) | (at_make; refine hold ?_))
                    (with_reducible refine unhold ?_)
                    refine wpList_apd rfl _ _ _ rfl Estr wo.heap.size _ 0 _ [] rfl ho9 _ 0 _ (wcl (q.drop k)) (by first | rfl | (simp; done)) hdl (hrd9 _ hb9) (wcl_one _) 0 (Nat.zero_add _) (wcl (q.drop k)) rfl (by omega) (by omega) (Nat.le_of_lt (by rw [World.size_alloc]; exact Nat.lt_succ_self _)) ?_
                    intro A6 c6 w9 ho6 hg6 _
                    have hb10 : Below wo.heap.size (wo.drewN d2) w9 := hb9.grown hg6 hb9.size ho9.row_ge
                    have hoO := HoS.below hb10
                    have hoT := HSH w9 hoO
                    have hbT := HbD.out.trans (hb10.mono hzo)
                    have hzT : wo.heap.size ≤ w9.heap.size := hb10.size
                    have hc1 : w9.drew.cell? ⟨b, o + j, none⟩ = some (.string (St8 x)) := cell_keep (w := wo) ((below_drewN' (Below.refl wo.heap.size wo) d2).trans hb10).drew c0
                    clear hg6 hb9 ho9
                    go_wp2_with fail
                    refine wp_region_held_drew (S := fun w' => w'.cell? ⟨b, o + j, none⟩ = some (.string (St8 x))) (by kernel_rfl) hc1 (fun hHeld => ?_)
                    (refine wpAnyH_take (i := 0) (oi := ?oi0_31) (v := ?vv0_31) ?hi0_31 (by kernel_rfl) (by kernel_rfl) (by kernel_rfl) ?hQ0_31 ?hy0_31 (by assumption) ?rest0_31; (case hi0_31 => ((simp only [List.getElem?_toArray, List.getElem?_cons_zero]); rfl)); (case hQ0_31 => exact (fun _ _ _ h => h)); (case hy0_31 => (refine Or.inl ⟨by rfl, ?_⟩; intro w hSw; (try dsimp only at hSw); go_simp; try (with_reducible rfl))); (try simp only [Act.put, List.setIfInBounds_toArray, List.set_cons_zero, List.set_cons_succ]))
                    (refine wpAnyH_take (i := 1) (oi := ?oi1_32) (v := ?vv1_32) ?hi1_32 (by kernel_rfl) (by kernel_rfl) (by kernel_rfl) ?hQ1_32 ?hy1_32 (by assumption) ?rest1_32; (case hi1_32 => ((simp only [List.getElem?_toArray, List.getElem?_cons_succ, List.getElem?_cons_zero]); rfl)); (case hQ1_32 => exact (fun _ _ _ h => h)); (case hy1_32 => (refine Or.inl ⟨by rfl, ?_⟩; intro w hSw; (try dsimp only at hSw); go_simp; try (with_reducible rfl))); (try simp only [Act.put, List.setIfInBounds_toArray, List.set_cons_zero, List.set_cons_succ]))
                    (refine wpAnyH_take (i := 2) (oi := ?oi2_33) (v := ?vv2_33) ?hi2_33 (by kernel_rfl) (by kernel_rfl) (by kernel_rfl) ?hQ2_33 ?hy2_33 (by assumption) ?rest2_33; (case hi2_33 => ((simp only [List.getElem?_toArray, List.getElem?_cons_succ, List.getElem?_cons_zero]); rfl)); (case hQ2_33 => exact (fun _ _ _ h => h)); (case hy2_33 => (refine Or.inl ⟨by rfl, ?_⟩; intro w hSw; (try dsimp only at hSw); go_simp; try (with_reducible rfl))); (try simp only [Act.put, List.setIfInBounds_toArray, List.set_cons_zero, List.set_cons_succ]))
                    (refine wpAnyH_take (i := 3) (oi := ?oi3_34) (v := ?vv3_34) ?hi3_34 (by kernel_rfl) (by kernel_rfl) (by kernel_rfl) ?hQ3_34 ?hy3_34 (by assumption) ?rest3_34; (case hi3_34 => ((simp only [List.getElem?_toArray, List.getElem?_cons_succ, List.getElem?_cons_zero]); rfl)); (case hQ3_34 => exact (fun _ _ _ h => h)); (case hy3_34 => (refine Or.inl ⟨by rfl, ?_⟩; intro w hSw; (try dsimp only at hSw); go_simp; try (with_reducible rfl))); (try simp only [Act.put, List.setIfInBounds_toArray, List.set_cons_zero, List.set_cons_succ]))
                    (refine wpAnyH_take (i := 4) (oi := ?oi4_35) (v := ?vv4_35) ?hi4_35 (by kernel_rfl) (by kernel_rfl) (by kernel_rfl) ?hQ4_35 ?hy4_35 (by assumption) ?rest4_35; (case hi4_35 => ((simp only [List.getElem?_toArray, List.getElem?_cons_succ, List.getElem?_cons_zero]); rfl)); (case hQ4_35 => exact (fun _ _ _ h => h)); (case hy4_35 => (refine Or.inl ⟨by rfl, ?_⟩; intro w hSw; (try dsimp only at hSw); go_simp; try (with_reducible rfl))); (try simp only [Act.put, List.setIfInBounds_toArray, List.set_cons_zero, List.set_cons_succ]))
                    (refine wpAnyH_take (i := 5) (oi := ?oi5_36) (v := ?vv5_36) ?hi5_36 (by kernel_rfl) (by kernel_rfl) (by kernel_rfl) ?hQ5_36 ?hy5_36 (by assumption) ?rest5_36; (case hi5_36 => ((simp only [List.getElem?_toArray, List.getElem?_cons_succ, List.getElem?_cons_zero]); rfl)); (case hQ5_36 => exact (fun _ _ _ h => h)); (case hy5_36 => (refine Or.inl ⟨by rfl, ?_⟩; intro w hSw; (try dsimp only at hSw); go_simp; try (with_reducible rfl))); (try simp only [Act.put, List.setIfInBounds_toArray, List.set_cons_zero, List.set_cons_succ]))
                    (refine wpAnyH_take (i := 6) (oi := ?oi6_37) (v := ?vv6_37) ?hi6_37 (by kernel_rfl) (by kernel_rfl) (by kernel_rfl) ?hQ6_37 ?hy6_37 (by assumption) ?rest6_37; (case hi6_37 => ((simp only [List.getElem?_toArray, List.getElem?_cons_succ, List.getElem?_cons_zero]); rfl)); (case hQ6_37 => exact (fun _ _ _ h => h)); (case hy6_37 => (refine Or.inl ⟨by rfl, ?_⟩; intro w hSw; (try dsimp only at hSw); go_simp; try (with_reducible rfl))); (try simp only [Act.put, List.setIfInBounds_toArray, List.set_cons_zero, List.set_cons_succ]))
                    (refine wpAnyH_ready (rs := [7]) (by kernel_rfl) (by simp) ?_; refine AllReadyH.cons (o := ?oc7_38) ?ho7_38 (fun K hK => ?_) AllReadyH.nil; (case ho7_38 => ((simp only [List.getElem?_toArray, List.getElem?_cons_succ, List.getElem?_cons_zero]); rfl)); go_simp)
                    have hbA : Below w9.heap.size w9.drew (w9.drew.alloc (.cells #[.string (St8 x)] 9)) := Below.alloc (Below.refl w9.heap.size w9.drew) (Nat.le_refl w9.heap.size) _
                    have hnew := (Blk.new w9.drew 9 #[.string (St8 x)]).range
                    have hc2 := cell_keep hbA hc1
                    refine hK.out _ _ hc2 (fun hHeld2 => ?_)
                    clear hK
                    (try simp only [Act.put, List.setIfInBounds_toArray, List.set_cons_zero, List.set_cons_succ])
                    (refine wpAnyH_ready (rs := [8]) (by kernel_rfl) (by simp) ?_; refine AllReadyH.cons (o := ?oc8_39) ?ho8_39 (fun K hK => ?_) AllReadyH.nil; (case ho8_39 => ((simp only [List.getElem?_toArray, List.getElem?_cons_succ, List.getElem?_cons_zero]); rfl)))
                    have hoU : Own (w9.drew.alloc (.cells #[.string (St8 x)] 9)) w.heap.size 9 1 (some ⟨g, 0, none⟩) k k (wcl (q.take k)) := Own.below (w := w9.drew) hoT hbA
                    have hoR : Own (w9.drew.alloc (.cells #[.string (St8 x)] 9)) wo.heap.size 9 1 A6 0 c6 (wcl (q.drop k)) := Own.below (w := w9.drew) ho6 hbA
                    have hbU : Below w.heap.size w (w9.drew.alloc (.cells #[.string (St8 x)] 9)) := hbT.drew.trans (hbA.mono hbT.size)
                    have hzU := hbU.size
                    refine step_apd rfl (.tmp 60) (.tmp 65) 27 rfl Estr w.heap.size (some ⟨g, 0, none⟩) k k (wcl (q.take k)) (by simp [Act.eval, Act.put]) hoU (some ⟨w9.heap.size, 0, none⟩) 1 1 [.string (St8 x)] (by simp [Act.eval, Act.put]) rfl (fun _ => ⟨_, _, rfl, hnew⟩) (by simp [Value.oneCell']) (k + 1) rfl _ rfl (by omega) (by omega) hzU ?_
                    intro A7 c7 w10 ho7 hg7 _
                    have hb7 : Below w.heap.size w w10 := hbU.grown hg7 hzU hoU.row_ge
                    have hc3 : w10.cell? ⟨b, o + j, none⟩ = some (.string (St8 x)) := by
                      obtain ⟨b3, o3, e3, d1⟩ := (Hr.out.below hb7).word Hjl.out
                      injection e3 with e3
                      injection e3 with e4 e5
                      subst e4
                      subst e5
                      rw [Hxe.out] at d1
                      exact d1
                    have hrest : Rd w10 A6 (wcl (q.drop k)) := hoR.rd.grown hg7 (fun b4 o4 e4 e5 => by
                      have h6 := hoT.lt b4 e5.symm
                      have h7 := HLT b4 e5.symm
                      have h8 := ho6.row_ge b4 (by rw [e4]; rfl)
                      omega)
                    refine hK.out _ _ hc3 (fun hHeld3 => ?_)
                    clear hK
                    (try simp only [Act.put, List.setIfInBounds_toArray, List.set_cons_zero, List.set_cons_succ])
                    (refine wpAnyH_take (i := 9) (oi := ?oi9_40) (v := ?vv9_40) ?hi9_40 (by kernel_rfl) (by kernel_rfl) (by kernel_rfl) ?hQ9_40 ?hy9_40 (by assumption) ?rest9_40; (case hi9_40 => ((simp only [List.getElem?_toArray, List.getElem?_cons_succ, List.getElem?_cons_zero]); rfl)); (case hQ9_40 => exact (fun _ _ _ h => h)); (case hy9_40 => (refine Or.inl ⟨by rfl, ?_⟩; intro w hSw; (try dsimp only at hSw); go_simp; try (with_reducible rfl))); (try simp only [Act.put, List.setIfInBounds_toArray, List.set_cons_zero, List.set_cons_succ]))
                    refine wpAnyH_done (by kernel_rfl) ?_ _
                    clear hHeld hHeld2 hHeld3
                    have e7 : wcl (q.take k) ++ [.string (St8 x)] = wcl (q.take k ++ [x]) := by rw [wcl_append]; rfl
                    rw [e7] at ho7
                    clear hg7 hoU hoR hbU hnew hbA hoT hoO ho6 HoS
                    go_wp2_with (first | (at_builtin; refine hold ?_) | (at_make; refine hold ?_))
                    (with_reducible refine unhold ?_)
                    refine wpList_apd rfl _ _ _ rfl Estr w.heap.size _ (k + 1) _ _ rfl ho7 _ 0 _ (wcl (q.drop k)) rfl hdl hrest (wcl_one _) (k + 1) (by omega) _ rfl (by omega) (by omega) hb7.size ?_
                    intro A8 c8 w11 ho8 hg8 _
                    have Hb8 := Lib.hid (hb7.grown hg8 hb7.size ho7.row_ge)
                    have e8 : wcl (q.take k ++ [x]) ++ wcl (q.drop k) = wcl (q.take k ++ x :: q.drop k) := by rw [← wcl_append, List.append_assoc]; rfl
                    rw [e8] at ho8
                    have Ho8 := Lib.hid ho8
                    have Hq8 : Hid ((q.take k ++ x :: q.drop k).length = k + 1) := by show _ = _; rw [List.length_append, List.length_cons, List.length_drop, htl, hql]; try omega
                    have Hf8 : Hid (rOf [] l = rOf (q.take k ++ x :: q.drop k) (l.drop (j + 1))) := by
                      show _ = _
                      rw [Hf2.out, ← Hins.out, Hk.out]
                    clear ho8 hg8 ho7 hrest
                    go_wp2_with fail
                    go_roundw
                    case rel => exact ⟨j + 1, k + 1, c8, A8, _, rfl, by go_num, by omega, by omega, Hq8, Hf8, Ho8, Hb8⟩
                    case measure => simp only [intOf, Int.toNat_natCast]; omega
    · obtain rfl : j = n := by omega
      have hf : Hid (ofM l = some (q, l.map (placeM q))) := by
        show _ = _
        rw [← hof.out, Hf.out, List.drop_eq_nil_of_le (by rw [Hl.out]; exact Nat.le_refl _)]
        rfl
      have hw3 := Ho.out.rd
      have Hb3 := Lib.hid Hb.out
      have hzo := Hb.out.size
      generalize wr = w3 at *
      have Hw3 := Lib.hid hw3
      clear hw3
      go_wp2_with fail
      go_loopw [9, 10] (fun vo vi wr => ∃ (i c' : Nat) (P : Option Addr), vo = .slice P i c' ∧ vi = .int .i64 (i : Int) ∧ i ≤ j ∧ Hid (Own wr w3.heap.size 3 1 P i c' (icl ((l.take i).map (placeM q)))) ∧ Hid (Below w3.heap.size w3 wr)) (fun _ vi _ => j - (intOf vi).toNat)
      case atStart => exact ⟨0, 0, none, rfl, rfl, by omega, Own.nil _ _ _ _, Below.refl _ _⟩
      case round =>
        obtain ⟨i, c', P, rfl, rfl, hi, Hp, Hbp⟩ := hrel
        by_cases hin : i < j
        · have hil : i < l.length := by rw [Hl.out]; exact hin
          have hiI : (i : Int) < (j : Int) := by omega
          have hi0 : (0 : Int) ≤ (i : Int) := by omega
          have hrw := (Hr.out.below Hb3.out).below Hbp.out
          obtain ⟨b, o, rfl, c0⟩ := hrw.word hil
          have hbs := Lib.hid (place_any q l[i] kk cc A' wr Hq.out (Hw3.out.below Hbp.out) (by omega))
          have Hsn : Hid ((l.take (i + 1)).map (placeM q) = (l.take i).map (placeM q) ++ [placeM q l[i]]) := by
            show _ = _
            rw [List.take_succ_eq_append_getElem hil, List.map_append, List.map_singleton]
          generalize placeM q l[i] = V at *
          generalize l[i] = x at *
          clear hrw hil
          go_wp2_with fail
          refine hbs.out.mono ?_
          rintro e w4 ⟨rfl, rfl⟩
          have hbW : Below wr.heap.size wr (wr.alloc (.cells #[.int .i64 V] 3)) := (Below.refl _ _).alloc (Nat.le_refl _) _
          have hnew := (Blk.new wr 3 #[.int .i64 V]).range
          have ho5 := Own.below Hp.out hbW
          have hb5 := Hbp.out.trans (hbW.mono Hbp.out.size)
          have hz5 := hb5.size
          clear hbs hbW
          go_wp2_with (first | (at_builtin; refine hold ?_) | (at_make; refine hold ?_))
          (with_reducible refine unhold ?_)
          refine wpList_apd rfl _ _ _ rfl Eint' w3.heap.size _ i _ (icl ((l.take i).map (placeM q))) rfl ho5 _ 1 _ [.int .i64 V] rfl rfl (fun _ => ⟨_, _, rfl, hnew⟩) (by simp [Value.oneCell']) (i + 1) rfl _ rfl (by omega) (by omega) hz5 ?_
          intro A5 c5 w9 ho9 hg9 _
          have Hb9 := Lib.hid (hb5.grown hg9 hb5.size ho5.row_ge)
          have Ho9 : Hid (Own w9 w3.heap.size 3 1 A5 (i + 1) c5 (icl ((l.take (i + 1)).map (placeM q)))) := by
            show Own _ _ _ _ _ _ _ _
            rw [Hsn.out, icl_snoc]
            exact ho9
          clear ho9 hg9 ho5 hb5 hnew Hp Hbp Hsn
          go_wp2_with fail
          go_roundw
          case rel => exact ⟨i + 1, c5, A5, rfl, by go_num, by omega, Ho9, Hb9⟩
          case measure => simp only [intOf, Int.toNat_natCast]; omega
        · obtain rfl : i = j := by omega
          go_wp2_with fail
          go_ret3
          refine ⟨.inr ⟨q, l.map (placeM q), A', cc, P, c', hf.out, ?_, Hw3.out.below Hbp.out, ?_⟩, Hb3.out.trans (Hbp.out.mono Hb3.out.size)⟩
          · rw [List.length_map, Hl.out, Hq.out]
            rfl
          · have := Hp.out.rd
            rw [List.take_of_length_le (by rw [Hl.out]; exact Nat.le_refl _)] at this
            exact this
end Go.Proofs.YtojppmnmhdgnnaaGreat
