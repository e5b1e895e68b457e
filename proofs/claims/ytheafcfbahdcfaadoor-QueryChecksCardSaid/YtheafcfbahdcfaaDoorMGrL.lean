/- Walks: the kinds of what is told of groups: the reference's. (Printed by gen_rqg.py.) Walks: the kinds of what is told: the reference's. (Printed by gen_rqt.py.) -/
import Derived.Test.YtheafcfbahdcfaaDoorMGrK
import Derived.Test.YtheafcfbahdcfaaDoorMQyU
import Derived.Test.YtheafcfbahdcfaaDoorMGrW
namespace Go.Proofs.YtheafcfbahdcfaaDoor
set_option linter.unusedVariables false
set_option linter.unusedSimpArgs false
open Go.RowKit

attribute [local go_sem ↓] Go.wp_at_zero Go.wp_at_succ

set_option maxHeartbeats 16000000 in
set_option maxRecDepth 100000 in
theorem rgkinds_any (kinds : List Int) (K : Option Addr) (kn kc : Nat) (by_ : List Int) (a3 : Option Addr) (n3 c3 : Nat) (l : List Ag) (a4 : Option Addr) (n4 c4 : Nat) (w : World) (hkn : kinds.length = kn) (hK : Rd w K (kcells kinds)) (_hkm : kn ≤ 1000) (h3 : by_.length = n3) (hB : Rd w a3 (icl by_)) (hc3 : n3 ≤ c3 ∧ c3 ≤ maxLen) (h4 : l.length = n4) (hL : Rd w a4 (agc l)) (hn3 : n3 ≤ 12) (hn4 : n4 ≤ 12) :
    Calls Tryd.prog 51 #[.slice K kn kc, .slice a3 n3 c3, .slice a4 n4 c4] w fun e w' => (∃ A d, e = .returned (.tuple #[.slice A (groupK kinds by_ l).1.length d, .int .i64 (groupK kinds by_ l).2]) ∧ Own w' w.heap.size 5 1 A (groupK kinds by_ l).1.length d (kcells (groupK kinds by_ l).1)) ∧ Below w.heap.size w w' := by
  have Hkn := Lib.hid hkn
  have H3 := Lib.hid h3
  have H4 := Lib.hid h4
  have hcc := hc3.1
  have hcm := hc3.2
  obtain ⟨G, hG⟩ : ∃ G, G = groupK kinds by_ l := ⟨_, rfl⟩
  rw [← hG]
  have Hlong : Hid (8 < n3 + n4 → G = ([], 3)) := Lib.hid fun h => by
    rw [hG]
    unfold groupK
    rw [if_pos (by omega)]
  have Hby : Hid (¬ 8 < n3 + n4 → ∀ j (hj : j < by_.length), (inK kinds by_[j] = false ∨ by_[j] ∈ by_.take j) → G = ([], 1)) := Lib.hid fun h j hj h2 => by
    rw [hG]
    unfold groupK
    rw [if_neg (by omega), if_pos]
    rcases h2 with h2 | h2
    · rw [show by_.all (inK kinds) = false from List.all_eq_false.2 ⟨_, List.getElem_mem hj, by rw [h2]; decide⟩]
      rfl
    · rw [decide_eq_false (nodup_bad hj h2), Bool.and_false]
  have Hag : Hid (¬ 8 < n3 + n4 → (∀ c ∈ by_, inK kinds c = true) → by_.Nodup → ∀ j (hj : j < l.length), aggOk kinds l[j] = false → G = ([], 1)) := Lib.hid fun h h2 h5 j hj h6 => by
    rw [hG]
    unfold groupK
    rw [if_neg (by omega), if_neg (by rw [List.all_eq_true.2 h2, decide_eq_true h5]; decide), if_pos (List.all_eq_false.2 ⟨_, List.getElem_mem hj, by rw [h6]; decide⟩)]
  have Hend : Hid (¬ 8 < n3 + n4 → (∀ c ∈ by_, inK kinds c = true) → by_.Nodup → (∀ x ∈ l, aggOk kinds x = true) → G = if l.any (aggBad kinds) = true then ([], 7) else (by_.map (fun c => kinds.getD c.toNat 0) ++ l.map (aggK kinds), 0)) := Lib.hid fun h h2 h5 h6 => by
    rw [hG]
    unfold groupK
    rw [if_neg (by omega), if_neg (by rw [List.all_eq_true.2 h2, decide_eq_true h5]; decide), if_neg (by rw [List.all_eq_true.2 h6]; decide)]
  have HK := Lib.hid hK
  have HB := Lib.hid hB
  have HL := Lib.hid hL
  clear hkn hK h3 hB hc3 h4 hL hG
  by_cases h8 : 8 < (n3 : Int) + (n4 : Int)
  · have HG2 := Lib.hid (Hlong.out (by omega))
    go_enter Tryd.func51, Tryd.ntmps51
    go_wp2_with fail
    go_ret2
    exact ⟨⟨none, 0, by rw [HG2.out]; rfl, by rw [HG2.out]; exact Own.nil _ _ _ _⟩, Below.refl _ _⟩
  · have h8n : ¬ 8 < n3 + n4 := by omega
    go_enter Tryd.func51, Tryd.ntmps51
    go_wp2_with fail
    go_loopw [8, 9] (fun vo vi wr => ∃ (j : Nat) (A : Option Addr) (d : Nat), vo = .slice A j d ∧ vi = .int .i64 j ∧ j ≤ n3 ∧ Hid (∀ c ∈ by_.take j, inK kinds c = true) ∧ Hid ((by_.take j).Nodup) ∧ Hid (Own wr w.heap.size 5 1 A j d (kcells ((by_.take j).map fun c => kinds.getD c.toNat 0))) ∧ Hid (Below w.heap.size w wr)) (fun _ vi _ => n3 - (intOf vi).toNat)
    case atStart => exact ⟨0, none, 0, rfl, rfl, by omega, by (show ∀ k ∈ ([] : List Int), _); simp, (show ([] : List Int).Nodup from List.nodup_nil), Own.nil _ _ _ _, Below.refl _ _⟩
    case round =>
      obtain ⟨j, A, d, rfl, rfl, hj, Hin, Hnd, Ho, Hb⟩ := hrel
      by_cases hjn : j < n3
      · have hjI : (j : Int) < (n3 : Int) := by omega
        have hjI0 : (0 : Int) ≤ (j : Int) := by omega
        have hjl : j < by_.length := by rw [H3.out]; exact hjn
        obtain ⟨b, o, hLe, c0⟩ := (HB.out.below Hb.out).num hjl
        have Hbad := Lib.hid (Hby.out h8n j hjl)
        have hts := List.take_succ_eq_append_getElem hjl
        have Hts := Lib.hid hts
        have Hcel := Lib.hid (fun k (hk : k < j) => (HB.out.below Hb.out).num (show k < by_.length by omega))
        have Hmem := Lib.hid (fun k (hk : k < j) => (show by_[k]'(by omega) ∈ by_.take j from List.mem_take_iff_getElem.2 ⟨k, by omega, rfl⟩))
        clear hts
        generalize hxe : by_[j] = x at *
        clear hxe
        by_cases h1 : x < 0
        · have HG2 := Lib.hid (Hbad.out (.inl (decide_eq_false (by omega))))
          subst hLe
          clear Hbad
          go_wp2_with fail
          go_ret2
          exact ⟨⟨none, 0, by rw [HG2.out]; rfl, by rw [HG2.out]; exact Own.nil _ _ _ _⟩, Hb.out⟩
        · by_cases h2 : (kn : Int) ≤ x
          · have HG2 := Lib.hid (Hbad.out (.inl (decide_eq_false (by rw [Hkn.out]; omega))))
            subst hLe
            clear Hbad
            go_wp2_with fail
            go_ret2
            exact ⟨⟨none, 0, by rw [HG2.out]; rfl, by rw [HG2.out]; exact Own.nil _ _ _ _⟩, Hb.out⟩
          · have hik : Hid (inK kinds x = true) := decide_eq_true (by rw [Hkn.out]; omega)
            have Hci := Lib.hid (fun w' (hw : Below wr.heap.size wr w') => cell_keep hw c0)
            subst hLe
            generalize wr = wo at *
            go_wp2_with fail
            go_loopw [10] (fun vk wr => ∃ k : Nat, vk = .int .i64 k ∧ k ≤ j ∧ Hid (∀ i (hi : i < by_.length), i < k → ¬ by_[i] = x) ∧ Hid (Below wo.heap.size wo wr)) (fun vk _ => j - (intOf vk).toNat)
            case atStart => exact ⟨0, rfl, by omega, (fun i _ h => by omega), Below.refl _ _⟩
            case round =>
              obtain ⟨k, rfl, hk, Hne, Hb2⟩ := hrel
              have HBr := Lib.hid (Hb.out.trans (Hb2.out.mono Hb.out.size))
              have hcj := Hci.out wr Hb2.out
              clear c0
              by_cases hkj : k < j
              · have hkI : (k : Int) < (j : Int) := by omega
                have hkI0 : (0 : Int) ≤ (k : Int) := by omega
                have hkn3 : (k : Int) < (n3 : Int) := by omega
                have hkl : k < by_.length := by omega
                obtain ⟨b', o', hLe', d0⟩ := Hcel.out k hkj
                have hbo : b' = b ∧ o' = o := by cases hLe'; exact ⟨rfl, rfl⟩
                obtain ⟨rfl, rfl⟩ := hbo
                have hdk := cell_keep Hb2.out d0
                have hm := Hmem.out k hkj
                have hst : ¬ by_[k] = x → ∀ i (hi : i < by_.length), i < k + 1 → ¬ by_[i] = x := fun h i hi hik2 => by
                  by_cases e : i = k
                  · subst e; exact h
                  · exact Hne.out i hi (by omega)
                have Hst := Lib.hid hst
                clear d0 hLe' hst
                generalize by_[k] = y at *
                by_cases hxy : y = x
                · subst hxy
                  have HG2 := Lib.hid (Hbad.out (.inr hm))
                  clear Hbad hm
                  go_wp2_with fail
                  go_quiet (fail)
                  go_wp2_with fail
                  go_ret2
                  exact ⟨⟨none, 0, by rw [HG2.out]; rfl, by rw [HG2.out]; exact Own.nil _ _ _ _⟩, HBr.out.trans ((drewB5 _ _).mono HBr.out.size)⟩
                · have HY := Lib.hid (Hst.out hxy)
                  have e1 : (y == x) = false := by rw [beq_eq_false_iff_ne]; exact hxy
                  clear Hst hm
                  go_wp2_with fail
                  go_quiet (fail)
                  go_wp2_with fail
                  go_roundw
                  case rel => exact ⟨k + 1, by go_num, by omega, HY, Hb2.out.trans ((drewB5 _ _).mono Hb2.out.size)⟩
                  case measure => simp [intOf]; omega
              · obtain rfl : k = j := by omega
                have hkI : ¬ (k : Int) < (k : Int) := by omega
                have hxi : Hid (¬ x ∈ by_.take k) := Lib.hid fun hm => by
                  obtain ⟨i, hi, e⟩ := List.mem_take_iff_getElem.1 hm
                  exact Hne.out i (by omega) (by omega) e
                have Hin2 : Hid (∀ c ∈ by_.take (k + 1), inK kinds c = true) := Lib.hid fun c hc => by
                  rw [Hts.out, List.mem_append, List.mem_singleton] at hc
                  rcases hc with hc | rfl
                  · exact Hin.out c hc
                  · exact hik.out
                have Hnd2 : Hid ((by_.take (k + 1)).Nodup) := by
                  show List.Nodup _
                  rw [Hts.out, List.nodup_append]
                  exact ⟨Hnd.out, by simp, fun a ha b hb e => by
                    rw [List.mem_singleton] at hb
                    rw [e, hb] at ha
                    exact hxi.out ha⟩
                obtain ⟨cN, rfl⟩ := Int.eq_ofNat_of_zero_le (show 0 ≤ x by omega)
                have hcl : cN < kinds.length := by have := Hkn.out; omega
                obtain ⟨qb, qo, hKe, g0⟩ := (HK.out.below HBr.out).kind hcl
                have Hgd : Hid (kinds.getD (cN : Int).toNat 0 = kinds[cN]) := by
                  show _ = _
                  rw [Int.toNat_natCast, List.getD_eq_getElem?_getD, List.getElem?_eq_getElem hcl]
                  rfl
                have hck : cN < kn := by rw [← Hkn.out]; exact hcl
                have hcI : (cN : Int) < (kn : Int) := by omega
                have hcI0 : (0 : Int) ≤ (cN : Int) := by omega
                subst hKe
                generalize kinds[cN] = kv at *
                have hbA : Below wr.heap.size wr (wr.alloc (.cells #[.int .u8 kv] 5)) := (Below.refl _ _).alloc (Nat.le_refl _) _
                have ho3 := (Ho.out.below Hb2.out).below hbA
                have hb3 := HBr.out.trans (hbA.mono HBr.out.size)
                have hz3 := hb3.size
                have hnew := (Blk.new wr 5 #[.int .u8 kv]).range
                have Hys : Hid (kcells ((by_.take k).map fun c => kinds.getD c.toNat 0) ++ [.int .u8 kv] = kcells ((by_.take (k + 1)).map fun c => kinds.getD c.toNat 0)) := by
                  show _ = _
                  rw [Hts.out, List.map_append, ← kcells_app]
                  show _ = _ ++ [Value.int .u8 (kinds.getD (cN : Int).toNat 0)]
                  rw [Hgd.out]
                clear Hbad hcl hbA
                go_wp2_with (first | (at_builtin; refine hold ?_) | (at_make; refine hold ?_))
                (with_reducible refine unhold ?_)
                refine wpList_apd rfl _ _ _ rfl E8 w.heap.size _ k _ _ rfl ho3 _ 1 _ [.int .u8 kv] rfl rfl (fun _ => ⟨_, _, rfl, hnew⟩) (by simp [Value.oneCell']) (k + 1) rfl _ Hys.out (by omega) (by omega) hz3 ?_
                intro A5 d5 w9 ho9 hg9 _
                have Hb9 := Lib.hid (hb3.grown hg9 hz3 ho3.row_ge)
                have Ho9 := Lib.hid ho9
                clear ho9 hg9 ho3 hb3 hnew hz3
                go_wp2_with fail
                go_roundw
                case rel => exact ⟨k + 1, A5, d5, rfl, by go_num, by omega, Hin2, Hnd2, Ho9, Hb9⟩
                case measure => simp [intOf]; omega
      · obtain rfl : j = n3 := by omega
        have htk : by_.take j = by_ := List.take_of_length_le (by rw [H3.out]; exact Nat.le_refl _)
        obtain ⟨bk, hbk⟩ : ∃ bk, bk = by_.map (fun c => kinds.getD c.toNat 0) := ⟨_, rfl⟩
        have Hbk := Lib.hid hbk
        have Ho2 : Hid (Own wr w.heap.size 5 1 A j d (kcells (bk ++ (l.take 0).map (aggK kinds)))) := by
          show Own _ _ _ _ _ _ _ _
          have := Ho.out
          rw [htk, ← hbk] at this
          simpa using this
        have Hin2 : Hid (∀ c ∈ by_, inK kinds c = true) := by have := Hin.out; rwa [htk] at this
        have Hnd2 : Hid (by_.Nodup) := by have := Hnd.out; rwa [htk] at this
        have Hag2 := Lib.hid (Hag.out h8n Hin2.out Hnd2.out)
        have Hend2 := Lib.hid (Hend.out h8n Hin2.out Hnd2.out)
        have Hbl : Hid (bk.length = j) := by show _ = _; rw [hbk, List.length_map, H3.out]
        have hjI : ¬ (j : Int) < (j : Int) := by omega
        clear hbk Ho Hin Hnd Hag Hend Hby htk
        generalize wr = w3 at *
        go_wp2_with fail
        go_loopw [11] (fun vi wr => ∃ q : Nat, vi = .int .i64 q ∧ q ≤ n4 ∧ Hid (∀ x ∈ l.take q, aggOk kinds x = true) ∧ Hid (Below w3.heap.size w3 wr)) (fun vi _ => n4 - (intOf vi).toNat)
        case atStart => exact ⟨0, rfl, by omega, by (show ∀ k ∈ ([] : List Ag), _); simp, Below.refl _ _⟩
        case round =>
          obtain ⟨q, rfl, hq, Hok, Hb3⟩ := hrel
          have HBr := Lib.hid (Hb.out.trans (Hb3.out.mono Hb.out.size))
          by_cases hqn : q < n4
          · have hqI : (q : Int) < (n4 : Int) := by omega
            have hqI0 : (0 : Int) ≤ (q : Int) := by omega
            have hql : q < l.length := by rw [H4.out]; exact hqn
            obtain ⟨b, o, hLe, c0, c1⟩ := (HL.out.below HBr.out).ag hql
            have Hag := Lib.hid (Hag2.out q hql)
            have hts := List.take_succ_eq_append_getElem hql
            have hst : aggOk kinds l[q] = true → ∀ x ∈ l.take (q + 1), aggOk kinds x = true := fun h x hx => by
              rw [hts, List.mem_append, List.mem_singleton] at hx
              rcases hx with hx | rfl
              · exact Hok.out x hx
              · exact h
            have Hst := Lib.hid hst
            clear hts hst
            subst hLe
            generalize l[q] = x at *
            obtain ⟨op, col⟩ := x
            dsimp only at c0 c1
            have hbK : Below w3.heap.size w3 (wr.alloc (.cells #[.int .u8 op, .int .i64 col] 65)) := Hb3.out.alloc Hb3.out.size _
            have HbK := Lib.hid hbK
            have Hbf := Lib.hid (Hb.out.trans (hbK.mono Hb.out.size))
            have hao : aggOk kinds ⟨op, col⟩ = if op = 1 then decide (col = 0) else decide (2 ≤ op ∧ op ≤ 5) && inK kinds col := rfl
            have hin : inK kinds col = decide (0 ≤ col ∧ col < (kn : Int)) := by rw [← Hkn.out]; rfl
            rw [hin] at hao
            rw [hao] at Hag Hst
            clear hbK hao hin
            by_cases ho1 : op = 1
            · subst ho1
              rw [if_pos rfl] at Hag Hst
              by_cases hc0 : col = 0
              · subst hc0
                have HY := Lib.hid (Hst.out rfl)
                clear Hag Hst
                go_wp2_with fail
                go_roundw
                case rel => exact ⟨q + 1, by go_num, by omega, HY, HbK.out⟩
                case measure => simp [intOf]; omega
              · have e2 : (col != 0) = true := by rw [bne_iff_ne]; exact hc0
                have HG2 := Lib.hid (Hag.out (decide_eq_false hc0))
                clear Hag Hst
                go_wp2_with fail
                go_ret2
                exact ⟨⟨none, 0, by rw [HG2.out]; rfl, by rw [HG2.out]; exact Own.nil _ _ _ _⟩, Hbf.out⟩
            · rw [if_neg ho1] at Hag Hst
              have e1 : (op == 1) = false := by rw [beq_eq_false_iff_ne]; exact ho1
              have e1' : (op != 1) = true := by rw [bne_iff_ne]; exact ho1
              by_cases ho2 : op < 1
              · have HG2 := Lib.hid (Hag.out (by rw [decide_eq_false (by omega)]; rfl))
                clear Hag Hst e1 e1'
                go_wp2_with fail
                go_ret2
                exact ⟨⟨none, 0, by rw [HG2.out]; rfl, by rw [HG2.out]; exact Own.nil _ _ _ _⟩, Hbf.out⟩
              · by_cases ho5 : 5 < op
                · have HG2 := Lib.hid (Hag.out (by rw [decide_eq_false (by omega)]; rfl))
                  clear Hag Hst e1 e1'
                  go_wp2_with fail
                  go_ret2
                  exact ⟨⟨none, 0, by rw [HG2.out]; rfl, by rw [HG2.out]; exact Own.nil _ _ _ _⟩, Hbf.out⟩
                · by_cases hc1 : col < 0
                  · have HG2 := Lib.hid (Hag.out (by rw [decide_eq_false (p := 0 ≤ col ∧ col < (kn : Int)) (by omega), Bool.and_false]))
                    clear Hag Hst
                    go_wp2_with fail
                    go_ret2
                    exact ⟨⟨none, 0, by rw [HG2.out]; rfl, by rw [HG2.out]; exact Own.nil _ _ _ _⟩, Hbf.out⟩
                  · by_cases hc2 : (kn : Int) ≤ col
                    · have HG2 := Lib.hid (Hag.out (by rw [decide_eq_false (p := 0 ≤ col ∧ col < (kn : Int)) (by omega), Bool.and_false]))
                      clear Hag Hst
                      go_wp2_with fail
                      go_ret2
                      exact ⟨⟨none, 0, by rw [HG2.out]; rfl, by rw [HG2.out]; exact Own.nil _ _ _ _⟩, Hbf.out⟩
                    · have HY := Lib.hid (Hst.out (by rw [decide_eq_true (by omega), decide_eq_true (by omega)]; rfl))
                      clear Hag Hst
                      go_wp2_with fail
                      go_roundw
                      case rel => exact ⟨q + 1, by go_num, by omega, HY, HbK.out⟩
                      case measure => simp [intOf]; omega
          · obtain rfl : q = n4 := by omega
            have htk : l.take q = l := List.take_of_length_le (by rw [H4.out]; exact Nat.le_refl _)
            have Hok2 : Hid (∀ x ∈ l, aggOk kinds x = true) := by have := Hok.out; rwa [htk] at this
            have Hend3 := Lib.hid (Hend2.out Hok2.out)
            have hqI : ¬ (q : Int) < (q : Int) := by omega
            have Ho3 := Lib.hid (Ho2.out.below Hb3.out)
            clear Hok htk Hag2 Hend2 Ho2
            generalize wr = w4 at *
            go_wp2_with fail
            go_loopw [8, 13] (fun vo vi wr => ∃ (p m : Nat) (A : Option Addr) (d : Nat), vo = .slice A m d ∧ vi = .int .i64 p ∧ p ≤ q ∧ m ≤ 40 ∧ Hid (m = j + p) ∧ Hid (∀ x ∈ l.take p, aggBad kinds x = false) ∧ Hid (Own wr w.heap.size 5 1 A m d (kcells (bk ++ (l.take p).map (aggK kinds)))) ∧ Hid (Below w.heap.size w wr)) (fun _ vi _ => q - (intOf vi).toNat)
            case atStart => exact ⟨0, j, A, d, rfl, rfl, by omega, by omega, rfl, (by (show ∀ k ∈ ([] : List Ag), _); simp), Ho3, HBr.out⟩
            case round =>
              obtain ⟨p, m, A9, d9, rfl, rfl, hp, hm, Hm, Hnb, Ho, Hb4⟩ := hrel
              by_cases hpq : p < q
              · have hpI : (p : Int) < (q : Int) := by omega
                have hpI0 : (0 : Int) ≤ (p : Int) := by omega
                have hpl : p < l.length := by rw [H4.out]; exact hpq
                have hm39 : m ≤ 30 := by have := Hm.out; omega
                obtain ⟨b, o, hLe, c0, c1⟩ := (HL.out.below Hb4.out).ag hpl
                have hokx := Hok2.out _ (List.getElem_mem hpl)
                have hbadE : aggBad kinds l[p] = true → G = ([], 7) := fun h => by
                  rw [Hend3.out, if_pos (List.any_eq_true.2 ⟨_, List.getElem_mem hpl, h⟩)]
                have Hts := Lib.hid (List.take_succ_eq_append_getElem hpl)
                subst hLe
                generalize l[p] = x at *
                obtain ⟨op, col⟩ := x
                dsimp only at c0 c1
                have HbadE := Lib.hid hbadE
                have Hbf : Hid (Below w.heap.size w (wr.alloc (.cells #[.int .u8 op, .int .i64 col] 65))) := Hb4.out.alloc Hb4.out.size _
                have hao : aggOk kinds ⟨op, col⟩ = if op = 1 then decide (col = 0) else decide (2 ≤ op ∧ op ≤ 5) && inK kinds col := rfl
                have hbo : aggBad kinds ⟨op, col⟩ = decide (op = 3 ∧ kinds.getD col.toNat 0 ≠ 2) := rfl
                have hko : aggK kinds ⟨op, col⟩ = if op = 4 ∨ op = 5 then kinds.getD col.toNat 0 else 2 := rfl
                rw [hao] at hokx
                clear hbadE hao
                by_cases ho1 : op = 1
                · subst ho1
                  rw [decide_eq_false (by omega)] at hbo
                  rw [if_neg (by omega)] at hko
                  clear hokx HbadE
                  have Hnb2 : Hid (∀ x ∈ l.take (p + 1), aggBad kinds x = false) := Lib.hid fun x hx => by
                    rw [Hts.out, List.mem_append, List.mem_singleton] at hx
                    rcases hx with hx | rfl
                    · exact Hnb.out x hx
                    · exact hbo
                  have hbA : Below wr.heap.size wr ((wr.alloc (.cells #[.int .u8 1, .int .i64 col] 65)).alloc (.cells #[.int .u8 2] 5)) := ((Below.refl _ _).alloc (Nat.le_refl _) _).alloc (by simp) _
                  have ho3 := Ho.out.below hbA
                  have hb3 := Hb4.out.trans (hbA.mono Hb4.out.size)
                  have hz3 := hb3.size
                  have hnew := two_new wr (.cells #[.int .u8 1, .int .i64 col] 65) 5 (.int .u8 2)
                  have Hys : Hid (kcells (bk ++ (l.take p).map (aggK kinds)) ++ [.int .u8 2] = kcells (bk ++ (l.take (p + 1)).map (aggK kinds))) := by
                    show _ = _
                    show kcells _ ++ kcells [2] = _
                    rw [kcells_app, Hts.out, List.map_append, List.map_cons, List.map_nil, hko, List.append_assoc]
                  clear hbA hbo hko
                  go_wp2_with (first | (at_builtin; refine hold ?_) | (at_make; refine hold ?_))
                  (with_reducible refine unhold ?_)
                  refine wpList_apd rfl _ _ _ rfl E8 w.heap.size _ m _ _ rfl ho3 _ 1 _ [.int .u8 2] rfl rfl (fun _ => ⟨_, _, rfl, hnew⟩) (by simp [Value.oneCell']) (m + 1) rfl _ Hys.out (by omega) (by omega) hz3 ?_
                  intro A5 d5 w9 ho9 hg9 _
                  have Hb9 := Lib.hid (hb3.grown hg9 hz3 ho3.row_ge)
                  have Ho9 := Lib.hid ho9
                  clear ho9 hg9 ho3 hb3 hnew hz3
                  go_wp2_with fail
                  go_roundw
                  case rel => exact ⟨p + 1, m + 1, A5, d5, rfl, by go_num, by omega, by omega, (show m + 1 = j + (p + 1) by have := Hm.out; omega), Hnb2, Ho9, Hb9⟩
                  case measure => simp [intOf]; omega
                · rw [if_neg ho1, Bool.and_eq_true] at hokx
                  have hop := of_decide_eq_true hokx.1
                  obtain ⟨hc1, hc2⟩ := of_decide_eq_true (show decide (0 ≤ col ∧ col < (kinds.length : Int)) = true from hokx.2)
                  obtain ⟨cN, rfl⟩ := Int.eq_ofNat_of_zero_le hc1
                  have hcl : cN < kinds.length := by omega
                  obtain ⟨qb, qo, hKe, g0⟩ := (HK.out.below Hbf.out).kind hcl
                  have hgd : kinds.getD (cN : Int).toNat 0 = kinds[cN] := by
                    rw [Int.toNat_natCast, List.getD_eq_getElem?_getD, List.getElem?_eq_getElem hcl]
                    rfl
                  rw [hgd] at hbo hko
                  have hck : cN < kn := by rw [← Hkn.out]; exact hcl
                  have hcI : (cN : Int) < (kn : Int) := by omega
                  have hcI0 : (0 : Int) ≤ (cN : Int) := by omega
                  subst hKe
                  generalize kinds[cN] = kv at *
                  clear hokx hcl hgd hc1 hc2
                  by_cases ho2 : op = 2
                  · subst ho2
                    rw [decide_eq_false (by omega)] at hbo
                    rw [if_neg (by omega)] at hko
                    clear HbadE
                    have Hnb2 : Hid (∀ x ∈ l.take (p + 1), aggBad kinds x = false) := Lib.hid fun x hx => by
                      rw [Hts.out, List.mem_append, List.mem_singleton] at hx
                      rcases hx with hx | rfl
                      · exact Hnb.out x hx
                      · exact hbo
                    have hbA : Below wr.heap.size wr ((wr.alloc (.cells #[.int .u8 2, .int .i64 (cN : Int)] 65)).alloc (.cells #[.int .u8 2] 5)) := ((Below.refl _ _).alloc (Nat.le_refl _) _).alloc (by simp) _
                    have ho3 := Ho.out.below hbA
                    have hb3 := Hb4.out.trans (hbA.mono Hb4.out.size)
                    have hz3 := hb3.size
                    have hnew := two_new wr (.cells #[.int .u8 2, .int .i64 (cN : Int)] 65) 5 (.int .u8 2)
                    have Hys : Hid (kcells (bk ++ (l.take p).map (aggK kinds)) ++ [.int .u8 2] = kcells (bk ++ (l.take (p + 1)).map (aggK kinds))) := by
                      show _ = _
                      show kcells _ ++ kcells [2] = _
                      rw [kcells_app, Hts.out, List.map_append, List.map_cons, List.map_nil, hko, List.append_assoc]
                    clear hbA hbo hko
                    go_wp2_with (first | (at_builtin; refine hold ?_) | (at_make; refine hold ?_))
                    (with_reducible refine unhold ?_)
                    refine wpList_apd rfl _ _ _ rfl E8 w.heap.size _ m _ _ rfl ho3 _ 1 _ [.int .u8 2] rfl rfl (fun _ => ⟨_, _, rfl, hnew⟩) (by simp [Value.oneCell']) (m + 1) rfl _ Hys.out (by omega) (by omega) hz3 ?_
                    intro A5 d5 w9 ho9 hg9 _
                    have Hb9 := Lib.hid (hb3.grown hg9 hz3 ho3.row_ge)
                    have Ho9 := Lib.hid ho9
                    clear ho9 hg9 ho3 hb3 hnew hz3
                    go_wp2_with fail
                    go_roundw
                    case rel => exact ⟨p + 1, m + 1, A5, d5, rfl, by go_num, by omega, by omega, (show m + 1 = j + (p + 1) by have := Hm.out; omega), Hnb2, Ho9, Hb9⟩
                    case measure => simp [intOf]; omega
                  · by_cases ho3 : op = 3
                    · subst ho3
                      rw [if_neg (by omega)] at hko
                      by_cases hkv : kv = 2
                      · subst hkv
                        rw [decide_eq_false (by omega)] at hbo
                        clear HbadE
                        have Hnb2 : Hid (∀ x ∈ l.take (p + 1), aggBad kinds x = false) := Lib.hid fun x hx => by
                          rw [Hts.out, List.mem_append, List.mem_singleton] at hx
                          rcases hx with hx | rfl
                          · exact Hnb.out x hx
                          · exact hbo
                        have hbA : Below wr.heap.size wr ((wr.alloc (.cells #[.int .u8 3, .int .i64 (cN : Int)] 65)).alloc (.cells #[.int .u8 2] 5)) := ((Below.refl _ _).alloc (Nat.le_refl _) _).alloc (by simp) _
                        have ho3 := Ho.out.below hbA
                        have hb3 := Hb4.out.trans (hbA.mono Hb4.out.size)
                        have hz3 := hb3.size
                        have hnew := two_new wr (.cells #[.int .u8 3, .int .i64 (cN : Int)] 65) 5 (.int .u8 2)
                        have Hys : Hid (kcells (bk ++ (l.take p).map (aggK kinds)) ++ [.int .u8 2] = kcells (bk ++ (l.take (p + 1)).map (aggK kinds))) := by
                          show _ = _
                          show kcells _ ++ kcells [2] = _
                          rw [kcells_app, Hts.out, List.map_append, List.map_cons, List.map_nil, hko, List.append_assoc]
                        clear hbA hbo hko
                        go_wp2_with (first | (at_builtin; refine hold ?_) | (at_make; refine hold ?_))
                        (with_reducible refine unhold ?_)
                        refine wpList_apd rfl _ _ _ rfl E8 w.heap.size _ m _ _ rfl ho3 _ 1 _ [.int .u8 2] rfl rfl (fun _ => ⟨_, _, rfl, hnew⟩) (by simp [Value.oneCell']) (m + 1) rfl _ Hys.out (by omega) (by omega) hz3 ?_
                        intro A5 d5 w9 ho9 hg9 _
                        have Hb9 := Lib.hid (hb3.grown hg9 hz3 ho3.row_ge)
                        have Ho9 := Lib.hid ho9
                        clear ho9 hg9 ho3 hb3 hnew hz3
                        go_wp2_with fail
                        go_roundw
                        case rel => exact ⟨p + 1, m + 1, A5, d5, rfl, by go_num, by omega, by omega, (show m + 1 = j + (p + 1) by have := Hm.out; omega), Hnb2, Ho9, Hb9⟩
                        case measure => simp [intOf]; omega
                      · have e2 : (kv != 2) = true := by rw [bne_iff_ne]; exact hkv
                        have HG2 := Lib.hid (HbadE.out (by rw [hbo]; exact decide_eq_true ⟨rfl, hkv⟩))
                        clear HbadE hbo hko
                        go_wp2_with fail
                        go_ret2
                        exact ⟨⟨none, 0, by rw [HG2.out]; rfl, by rw [HG2.out]; exact Own.nil _ _ _ _⟩, Hbf.out⟩
                    · rw [decide_eq_false (by omega)] at hbo
                      clear HbadE
                      by_cases ho4 : op = 4
                      · subst ho4
                        rw [if_pos (by omega)] at hko
                        have Hnb2 : Hid (∀ x ∈ l.take (p + 1), aggBad kinds x = false) := Lib.hid fun x hx => by
                          rw [Hts.out, List.mem_append, List.mem_singleton] at hx
                          rcases hx with hx | rfl
                          · exact Hnb.out x hx
                          · exact hbo
                        have hbA : Below wr.heap.size wr ((wr.alloc (.cells #[.int .u8 4, .int .i64 (cN : Int)] 65)).alloc (.cells #[.int .u8 kv] 5)) := ((Below.refl _ _).alloc (Nat.le_refl _) _).alloc (by simp) _
                        have ho3 := Ho.out.below hbA
                        have hb3 := Hb4.out.trans (hbA.mono Hb4.out.size)
                        have hz3 := hb3.size
                        have hnew := two_new wr (.cells #[.int .u8 4, .int .i64 (cN : Int)] 65) 5 (.int .u8 kv)
                        have Hys : Hid (kcells (bk ++ (l.take p).map (aggK kinds)) ++ [.int .u8 kv] = kcells (bk ++ (l.take (p + 1)).map (aggK kinds))) := by
                          show _ = _
                          show kcells _ ++ kcells [kv] = _
                          rw [kcells_app, Hts.out, List.map_append, List.map_cons, List.map_nil, hko, List.append_assoc]
                        clear hbA hbo hko
                        go_wp2_with (first | (at_builtin; refine hold ?_) | (at_make; refine hold ?_))
                        (with_reducible refine unhold ?_)
                        refine wpList_apd rfl _ _ _ rfl E8 w.heap.size _ m _ _ rfl ho3 _ 1 _ [.int .u8 kv] rfl rfl (fun _ => ⟨_, _, rfl, hnew⟩) (by simp [Value.oneCell']) (m + 1) rfl _ Hys.out (by omega) (by omega) hz3 ?_
                        intro A5 d5 w9 ho9 hg9 _
                        have Hb9 := Lib.hid (hb3.grown hg9 hz3 ho3.row_ge)
                        have Ho9 := Lib.hid ho9
                        clear ho9 hg9 ho3 hb3 hnew hz3
                        go_wp2_with fail
                        go_roundw
                        case rel => exact ⟨p + 1, m + 1, A5, d5, rfl, by go_num, by omega, by omega, (show m + 1 = j + (p + 1) by have := Hm.out; omega), Hnb2, Ho9, Hb9⟩
                        case measure => simp [intOf]; omega
                      · obtain rfl : op = 5 := by omega
                        rw [if_pos (by omega)] at hko
                        have Hnb2 : Hid (∀ x ∈ l.take (p + 1), aggBad kinds x = false) := Lib.hid fun x hx => by
                          rw [Hts.out, List.mem_append, List.mem_singleton] at hx
                          rcases hx with hx | rfl
                          · exact Hnb.out x hx
                          · exact hbo
                        have hbA : Below wr.heap.size wr ((wr.alloc (.cells #[.int .u8 5, .int .i64 (cN : Int)] 65)).alloc (.cells #[.int .u8 kv] 5)) := ((Below.refl _ _).alloc (Nat.le_refl _) _).alloc (by simp) _
                        have ho3 := Ho.out.below hbA
                        have hb3 := Hb4.out.trans (hbA.mono Hb4.out.size)
                        have hz3 := hb3.size
                        have hnew := two_new wr (.cells #[.int .u8 5, .int .i64 (cN : Int)] 65) 5 (.int .u8 kv)
                        have Hys : Hid (kcells (bk ++ (l.take p).map (aggK kinds)) ++ [.int .u8 kv] = kcells (bk ++ (l.take (p + 1)).map (aggK kinds))) := by
                          show _ = _
                          show kcells _ ++ kcells [kv] = _
                          rw [kcells_app, Hts.out, List.map_append, List.map_cons, List.map_nil, hko, List.append_assoc]
                        clear hbA hbo hko
                        go_wp2_with (first | (at_builtin; refine hold ?_) | (at_make; refine hold ?_))
                        (with_reducible refine unhold ?_)
                        refine wpList_apd rfl _ _ _ rfl E8 w.heap.size _ m _ _ rfl ho3 _ 1 _ [.int .u8 kv] rfl rfl (fun _ => ⟨_, _, rfl, hnew⟩) (by simp [Value.oneCell']) (m + 1) rfl _ Hys.out (by omega) (by omega) hz3 ?_
                        intro A5 d5 w9 ho9 hg9 _
                        have Hb9 := Lib.hid (hb3.grown hg9 hz3 ho3.row_ge)
                        have Ho9 := Lib.hid ho9
                        clear ho9 hg9 ho3 hb3 hnew hz3
                        go_wp2_with fail
                        go_roundw
                        case rel => exact ⟨p + 1, m + 1, A5, d5, rfl, by go_num, by omega, by omega, (show m + 1 = j + (p + 1) by have := Hm.out; omega), Hnb2, Ho9, Hb9⟩
                        case measure => simp [intOf]; omega
              · obtain rfl : p = q := by omega
                have htk : l.take p = l := List.take_of_length_le (by rw [H4.out]; exact Nat.le_refl _)
                have hnb : ¬ l.any (aggBad kinds) = true := fun h => by
                  obtain ⟨x, hx, hxb⟩ := List.any_eq_true.1 h
                  have h2 := Hnb.out x (by rw [htk]; exact hx)
                  rw [h2] at hxb
                  cases hxb
                have hg2 := Hend3.out
                rw [if_neg hnb, ← Hbk.out] at hg2
                have HG2 := Lib.hid hg2
                have hpI : ¬ (p : Int) < (p : Int) := by omega
                have Ho2 : Hid (Own wr w.heap.size 5 1 A9 m d9 (kcells (bk ++ l.map (aggK kinds)))) := by
                  show Own _ _ _ _ _ _ _ _
                  have := Ho.out
                  rwa [htk] at this
                have Hml : Hid ((bk ++ l.map (aggK kinds)).length = m) := by
                  show _ = _
                  rw [List.length_append, List.length_map, Hbl.out, H4.out, Hm.out]
                clear htk hnb hg2 Hend3
                go_wp2_with fail
                go_ret2
                exact ⟨⟨A9, d9, by rw [HG2.out]; show Ending.returned (.tuple #[.slice A9 _ d9, _]) = Ending.returned (.tuple #[.slice A9 (bk ++ l.map (aggK kinds)).length d9, _]); rw [Hml.out]; rfl, by rw [HG2.out]; show Own _ _ _ _ _ (bk ++ l.map (aggK kinds)).length _ _; rw [Hml.out]; exact Ho2.out⟩, Hb4.out⟩
end Go.Proofs.YtheafcfbahdcfaaDoor
namespace Go.Proofs.YtheafcfbahdcfaaDoor
set_option linter.unusedVariables false
set_option linter.unusedSimpArgs false
open Go.RowKit

attribute [local go_sem ↓] Go.wp_at_zero Go.wp_at_succ

set_option maxHeartbeats 16000000 in
set_option maxRecDepth 100000 in
theorem rtold_any (kinds : List Int) (K : Option Addr) (kn kc : Nat) (q : Qy) (a1 : Option Addr) (n1 c1 : Nat) (a2 : Option Addr) (n2 c2 : Nat) (a3 : Option Addr) (n3 c3 : Nat) (a4 : Option Addr) (n4 c4 : Nat) (a5 : Option Addr) (n5 c5 : Nat) (a6 : Option Addr) (n6 c6 : Nat) (w : World) (hkn : kinds.length = kn) (hK : Rd w K (kcells kinds)) (hkm : kn ≤ 1000) (hq : Qi w q a1 n1 a2 n2 a3 n3 a4 n4 a5 n5 a6 n6) (hqf : q.Few) (hc3 : n3 ≤ c3 ∧ c3 ≤ maxLen) :
    Calls Tryd.prog 27 #[.slice K kn kc, .agg #[.string (St8 q.frm), .slice a1 n1 c1, .slice a2 n2 c2, .slice a3 n3 c3, .slice a4 n4 c4, .slice a5 n5 c5, .slice a6 n6 c6]] w fun e w' => (∃ A d, e = .returned (.tuple #[.slice A (toldM kinds q).1.length d, .int .i64 (toldM kinds q).2]) ∧ Own w' w.heap.size 5 1 A (toldM kinds q).1.length d (kcells (toldM kinds q).1)) ∧ Below w.heap.size w w' := by
  have Hkn := Lib.hid hkn
  have hn3 := hqf.by_
  have hn4 := hqf.aggs
  have hn5 := hqf.want
  rw [hq.l3] at hn3
  rw [hq.l4] at hn4
  rw [hq.l5] at hn5
  obtain ⟨wb, hwb⟩ : ∃ x, x = w.alloc (.cells #[.string (St8 q.frm), .slice a1 n1 c1, .slice a2 n2 c2, .slice a3 n3 c3, .slice a4 n4 c4, .slice a5 n5 c5, .slice a6 n6 c6] 29) := ⟨_, rfl⟩
  have Hbx : Hid (Blk wb w.heap.size 29 (#[.string (St8 q.frm), .slice a1 n1 c1, .slice a2 n2 c2, .slice a3 n3 c3, .slice a4 n4 c4, .slice a5 n5 c5, .slice a6 n6 c6]).toList) := by
    show Blk _ _ _ _
    rw [hwb]
    exact Blk.new w _ _
  have Hbb : Hid (Below w.heap.size w wb) := by
    show Below _ _ _
    rw [hwb]
    exact (Below.refl _ _).alloc (Nat.le_refl _) _
  have hqb := hq.below Hbb.out
  have HK := Lib.hid (hK.below Hbb.out)
  have HW := Lib.hid hqb.r5
  have H5 := Lib.hid hq.l5
  have Hgk := Lib.hid (rgkinds_any kinds K kn kc q.by_ a3 n3 c3 q.aggs a4 n4 c4 wb hkn HK.out hkm hq.l3 hqb.r3 hc3 hq.l4 hqb.r4 hn3 hn4)
  obtain ⟨G, hG⟩ : ∃ G, G = toldM kinds q := ⟨_, rfl⟩
  rw [← hG]
  have Hg1 : Hid (0 < n3 + n4 → 0 < n5 → G = ([], 233)) := Lib.hid fun h h2 => by
    rw [hG]; unfold toldM
    rw [hq.l3, hq.l4, hq.l5, if_pos h, if_pos h2]
  have Hg2 : Hid (0 < n3 + n4 → ¬ 0 < n5 → groupK kinds q.by_ q.aggs = G) := Lib.hid fun h h2 => by
    rw [hG]; unfold toldM
    rw [hq.l3, hq.l4, hq.l5, if_pos h, if_neg h2]
  have Hg3 : Hid (¬ 0 < n3 + n4 → (n5 < 1 ∨ 8 < n5) → G = ([], 233)) := Lib.hid fun h h2 => by
    rw [hG]; unfold toldM
    rw [hq.l3, hq.l4, hq.l5, if_neg h, if_pos h2]
  have Hg4 : Hid (¬ 0 < n3 + n4 → ¬ (n5 < 1 ∨ 8 < n5) → ∀ j (hj : j < q.want.length), inK kinds q.want[j] = false → G = ([], 233)) := Lib.hid fun h h2 j hj h3 => by
    rw [hG]; unfold toldM
    rw [hq.l3, hq.l4, hq.l5, if_neg h, if_neg h2, if_neg]
    intro h4
    have := List.all_eq_true.1 h4 _ (List.getElem_mem hj)
    rw [h3] at this
    cases this
  have Hg5 : Hid (¬ 0 < n3 + n4 → ¬ (n5 < 1 ∨ 8 < n5) → (∀ c ∈ q.want, inK kinds c = true) → G = (q.want.map fun c => kinds.getD c.toNat 0, 0)) := Lib.hid fun h h2 h3 => by
    rw [hG]; unfold toldM
    rw [hq.l3, hq.l4, hq.l5, if_neg h, if_neg h2, if_pos (List.all_eq_true.2 h3)]
  clear hkn hK hq hqf hqb hG
  by_cases hg : 0 < (n3 : Int) + (n4 : Int)
  · by_cases hw : 0 < (n5 : Int)
    · have HG2 := Lib.hid (Hg1.out (by omega) (by omega))
      go_enter Tryd.func27, Tryd.ntmps27
      go_wp2_with fail
      go_ret2
      exact ⟨⟨none, 0, by rw [HG2.out]; rfl, by rw [HG2.out]; exact Own.nil _ _ _ _⟩, by (try rw [← hwb]); exact Hbb.out⟩
    · have hge := Hg2.out (by omega) (by omega)
      rw [hge] at Hgk
      clear hge
      obtain ⟨gl, ge⟩ := G
      dsimp only at Hgk
      go_enter Tryd.func27, Tryd.ntmps27
      go_wp2_with fail
      rw [← hwb]
      refine Hgk.out.mono ?_
      rintro e w1 ⟨⟨A, d, rfl, ho⟩, hb1⟩
      have Ho := Lib.hid (ho.lower Hbb.out.size)
      have Hb1 := Lib.hid (Hbb.out.trans (hb1.mono Hbb.out.size))
      clear ho hb1
      go_wp2_with fail
      go_ret2
      exact ⟨⟨A, d, rfl, Ho.out⟩, Hb1.out⟩
  · have hgn : ¬ 0 < n3 + n4 := by omega
    by_cases hw1 : (n5 : Int) < 1
    · have HG2 := Lib.hid (Hg3.out hgn (by omega))
      go_enter Tryd.func27, Tryd.ntmps27
      go_wp2_with fail
      go_ret2
      exact ⟨⟨none, 0, by rw [HG2.out]; rfl, by rw [HG2.out]; exact Own.nil _ _ _ _⟩, by (try rw [← hwb]); exact Hbb.out⟩
    · by_cases hw8 : 8 < (n5 : Int)
      · have HG2 := Lib.hid (Hg3.out hgn (by omega))
        go_enter Tryd.func27, Tryd.ntmps27
        go_wp2_with fail
        go_ret2
        exact ⟨⟨none, 0, by rw [HG2.out]; rfl, by rw [HG2.out]; exact Own.nil _ _ _ _⟩, by (try rw [← hwb]); exact Hbb.out⟩
      · have Hg4' := Lib.hid (Hg4.out hgn (by omega))
        have Hg5' := Lib.hid (Hg5.out hgn (by omega))
        clear Hg1 Hg2 Hg3 Hg4 Hg5 Hgk
        go_enter Tryd.func27, Tryd.ntmps27
        go_wp2_with fail
        go_loopw [6, 7] (fun vo vi wr => ∃ (j : Nat) (A : Option Addr) (d : Nat), vo = .slice A j d ∧ vi = .int .i64 j ∧ j ≤ n5 ∧ Hid (∀ c ∈ q.want.take j, inK kinds c = true) ∧ Hid (Own wr wb.heap.size 5 1 A j d (kcells ((q.want.take j).map fun c => kinds.getD c.toNat 0))) ∧ Hid (Below wb.heap.size wb wr)) (fun _ vi _ => n5 - (intOf vi).toNat)
        case atStart => exact ⟨0, none, 0, rfl, rfl, by omega, by (show ∀ k ∈ ([] : List Int), _); simp, Own.nil _ _ _ _, (by (try rw [← hwb]); exact Below.refl _ _)⟩
        case round =>
          obtain ⟨j, A, d, rfl, rfl, hj, Hin, Ho, Hb⟩ := hrel
          have k5 : wr.cell? ⟨w.heap.size, 5, none⟩ = some (.slice a5 n5 c5) := (Hbx.out.below Hb.out).cell 5
          by_cases hjn : j < n5
          · have hjI : (j : Int) < (n5 : Int) := by omega
            have hjI0 : (0 : Int) ≤ (j : Int) := by omega
            have hjl : j < q.want.length := by rw [H5.out]; exact hjn
            obtain ⟨b, o, hLe, c0⟩ := (HW.out.below Hb.out).num hjl
            have Hbad := Lib.hid (Hg4'.out j hjl)
            have hts := List.take_succ_eq_append_getElem hjl
            have Hts := Lib.hid hts
            have Hfin := Lib.hid (Hbb.out.trans (Hb.out.mono Hbb.out.size))
            clear hts
            subst hLe
            generalize q.want[j] = x at *
            clear hjl
            by_cases h1 : x < 0
            · have HG2 := Lib.hid (Hbad.out (decide_eq_false (by omega)))
              clear Hbad
              go_wp2_with fail
              go_ret2
              exact ⟨⟨none, 0, by rw [HG2.out]; rfl, by rw [HG2.out]; exact Own.nil _ _ _ _⟩, Hfin.out⟩
            · by_cases h2 : (kn : Int) ≤ x
              · have HG2 := Lib.hid (Hbad.out (decide_eq_false (by rw [Hkn.out]; omega)))
                clear Hbad
                go_wp2_with fail
                go_ret2
                exact ⟨⟨none, 0, by rw [HG2.out]; rfl, by rw [HG2.out]; exact Own.nil _ _ _ _⟩, Hfin.out⟩
              · have hik : inK kinds x = true := decide_eq_true (by rw [Hkn.out]; omega)
                have Hin2 : Hid (∀ c ∈ q.want.take (j + 1), inK kinds c = true) := Lib.hid fun c hc => by
                  rw [Hts.out, List.mem_append, List.mem_singleton] at hc
                  rcases hc with hc | rfl
                  · exact Hin.out c hc
                  · exact hik
                obtain ⟨cN, rfl⟩ := Int.eq_ofNat_of_zero_le (show 0 ≤ x by omega)
                have hck : cN < kn := by omega
                have hcl : cN < kinds.length := by rw [Hkn.out]; exact hck
                obtain ⟨qb, qo, hKe, g0⟩ := (HK.out.below Hb.out).kind hcl
                have Hgd : Hid (kinds.getD (cN : Int).toNat 0 = kinds[cN]) := by
                  show _ = _
                  rw [Int.toNat_natCast, List.getD_eq_getElem?_getD, List.getElem?_eq_getElem hcl]
                  rfl
                have hcI : (cN : Int) < (kn : Int) := by omega
                have hcI0 : (0 : Int) ≤ (cN : Int) := by omega
                subst hKe
                generalize kinds[cN] = kv at *
                have hbA : Below wr.heap.size wr (wr.alloc (.cells #[.int .u8 kv] 5)) := (Below.refl _ _).alloc (Nat.le_refl _) _
                have ho3 := Ho.out.below hbA
                have hb3 := Hb.out.trans (hbA.mono Hb.out.size)
                have hz3 := hb3.size
                have hnew := (Blk.new wr 5 #[.int .u8 kv]).range
                have Hys : Hid (kcells ((q.want.take j).map fun c => kinds.getD c.toNat 0) ++ [.int .u8 kv] = kcells ((q.want.take (j + 1)).map fun c => kinds.getD c.toNat 0)) := by
                  show _ = _
                  rw [Hts.out, List.map_append, ← kcells_app]
                  show _ = _ ++ [Value.int .u8 (kinds.getD (cN : Int).toNat 0)]
                  rw [Hgd.out]
                clear hik Hbad hcl hbA
                go_wp2_with (first | (at_builtin; refine hold ?_) | (at_make; refine hold ?_))
                (with_reducible refine unhold ?_)
                refine wpList_apd rfl _ _ _ rfl E8 wb.heap.size _ j _ _ rfl ho3 _ 1 _ [.int .u8 kv] rfl rfl (fun _ => ⟨_, _, rfl, hnew⟩) (by simp [Value.oneCell']) (j + 1) rfl _ Hys.out (by omega) (by omega) hz3 ?_
                intro A5 d5 w9 ho9 hg9 _
                have Hb9 := Lib.hid (hb3.grown hg9 hz3 ho3.row_ge)
                have Ho9 := Lib.hid ho9
                clear ho9 hg9 ho3 hb3 hnew hz3
                go_wp2_with fail
                go_roundw
                case rel => exact ⟨j + 1, A5, d5, rfl, by go_num, by omega, Hin2, Ho9, Hb9⟩
                case measure => simp [intOf]; omega
          · obtain rfl : j = n5 := by omega
            have htk : q.want.take j = q.want := List.take_of_length_le (by rw [H5.out]; exact Nat.le_refl _)
            have HG2 := Lib.hid (Hg5'.out (by have := Hin.out; rwa [htk] at this))
            have Ho2 : Hid (Own wr w.heap.size 5 1 A j d (kcells (q.want.map fun c => kinds.getD c.toNat 0))) := by
              show Own _ _ _ _ _ _ _ _
              have := Ho.out
              rw [htk] at this
              exact this.lower Hbb.out.size
            have Hfin := Lib.hid (Hbb.out.trans (Hb.out.mono Hbb.out.size))
            have Hml : Hid ((q.want.map fun c => kinds.getD c.toNat 0).length = j) := by show _ = _; rw [List.length_map, H5.out]
            clear htk
            go_wp2_with fail
            go_ret2
            exact ⟨⟨A, d, by rw [HG2.out]; show Ending.returned (.tuple #[.slice A _ d, _]) = Ending.returned (.tuple #[.slice A (q.want.map fun c => kinds.getD c.toNat 0).length d, _]); rw [Hml.out]; rfl, by rw [HG2.out]; show Own _ _ _ _ _ (q.want.map fun c => kinds.getD c.toNat 0).length _ _; rw [Hml.out]; exact Ho2.out⟩, Hfin.out⟩
end Go.Proofs.YtheafcfbahdcfaaDoor
