/- Walks: the kinds of what is told of groups: the program's. (Printed by gen_qyu.py.) -/
import Derived.Test.YtheafcfbahdcfaaDoorMQyP
namespace Go.Proofs.YtheafcfbahdcfaaDoor
set_option linter.unusedVariables false
set_option linter.unusedSimpArgs false
open Go.RowKit

attribute [local go_sem ↓] Go.wp_at_zero Go.wp_at_succ

theorem icl_left {p : List Int} {A : Option Addr} {w : World} (k : Nat) (hr : Rd w A (icl p)) : Rd w A (icl (p.take k)) := fun hne => by
  obtain ⟨b, o, e, h⟩ := hr (fun e => hne (by unfold icl at *; rw [List.map_take, e]; simp))
  refine ⟨b, o, e, fun j v hj => h j v ?_⟩
  have h2 : (icl (p.take k))[j]? = (if j < k then (icl p)[j]? else none) := by
    unfold icl
    rw [List.map_take, List.getElem?_take]
  rw [h2] at hj
  split at hj
  · exact hj
  · cases hj
theorem nodup_bad {l : List Int} {j : Nat} (hj : j < l.length) (h : l[j] ∈ l.take j) : ¬ l.Nodup := by
  intro hn
  rw [← List.take_append_drop j l, List.nodup_append] at hn
  refine hn.2.2 _ h _ ?_ rfl
  rw [List.drop_eq_getElem_cons hj]
  exact List.mem_cons_self

set_option maxRecDepth 100000 in
theorem is_any (kinds : List Int) (K : Option Addr) (kn kc kb : Nat) (col : Int) (w : World) (hkn : kinds.length = kn) (hkb : w.cell? ⟨kb, 0, none⟩ = some (.slice K kn kc)) :
    Calls Tryd.prog 62 #[.int .i64 col, .pointer (some ⟨kb, 0, none⟩)] w fun e w' => e = .returned (.bool (inK kinds col)) ∧ w = w' := by
  obtain ⟨R, hR⟩ : ∃ R, R = inK kinds col := ⟨_, rfl⟩
  rw [← hR]
  have hR2 : R = decide (0 ≤ col ∧ col < (kn : Int)) := by rw [hR, ← hkn]; rfl
  clear hR hkn
  by_cases h1 : 0 ≤ col
  · by_cases h2 : col < (kn : Int)
    · have HR : Hid (R = true) := by show _ = _; rw [hR2]; exact decide_eq_true ⟨h1, h2⟩
      clear hR2
      go_enter Tryd.func62, Tryd.ntmps62
      go_wp2_with fail
      go_ret
      exact ⟨by rw [HR.out]; rfl, rfl⟩
    · have HR : Hid (R = false) := by show _ = _; rw [hR2]; exact decide_eq_false (fun h => h2 h.2)
      have e2 : decide (col < (kn : Int)) = false := decide_eq_false h2
      clear hR2 h2
      go_enter Tryd.func62, Tryd.ntmps62
      go_wp2_with fail
      go_ret
      exact ⟨by rw [HR.out]; first | rfl | exact congrArg (fun b => Ending.returned (.bool b)) e2, rfl⟩
  · have HR : Hid (R = false) := by show _ = _; rw [hR2]; exact decide_eq_false (fun h => h1 h.1)
    have e1 : decide (0 ≤ col) = false := decide_eq_false h1
    clear hR2 h1
    go_enter Tryd.func62, Tryd.ntmps62
    go_wp2_with fail
    go_ret
    exact ⟨by rw [HR.out]; first | rfl | exact congrArg (fun b => Ending.returned (.bool b)) e1, rfl⟩

set_option maxHeartbeats 16000000 in
set_option maxRecDepth 100000 in
theorem gkinds_any (kinds : List Int) (K : Option Addr) (kn kc : Nat) (by_ : List Int) (a3 : Option Addr) (n3 c3 : Nat) (l : List Ag) (a4 : Option Addr) (n4 c4 : Nat) (w : World) (hkn : kinds.length = kn) (hK : Rd w K (kcells kinds)) (_hkm : kn ≤ 1000) (h3 : by_.length = n3) (hB : Rd w a3 (icl by_)) (hc3 : n3 ≤ c3 ∧ c3 ≤ maxLen) (h4 : l.length = n4) (hL : Rd w a4 (agc l)) (hn3 : n3 ≤ 12) (hn4 : n4 ≤ 12) :
    Calls Tryd.prog 48 #[.slice K kn kc, .slice a3 n3 c3, .slice a4 n4 c4] w fun e w' => (∃ A d, e = .returned (.tuple #[.slice A (groupK kinds by_ l).1.length d, .int .i64 (groupK kinds by_ l).2]) ∧ Own w' w.heap.size 5 1 A (groupK kinds by_ l).1.length d (kcells (groupK kinds by_ l).1)) ∧ Below w.heap.size w w' := by
  have Hkn := Lib.hid hkn
  have H3 := Lib.hid h3
  have H4 := Lib.hid h4
  have hcc := hc3.1
  have hcm := hc3.2
  obtain ⟨G, hG⟩ : ∃ G, G = groupK kinds by_ l := ⟨_, rfl⟩
  rw [← hG]
  have Hlong : Hid (8 < n3 + n4 → G = ([], 3)) := Lib.hid fun h => by
    rw [hG]
    unfold groupK
    rw [if_pos (by omega)]
  have Hby : Hid (¬ 8 < n3 + n4 → ∀ j (hj : j < by_.length), (inK kinds by_[j] = false ∨ by_[j] ∈ by_.take j) → G = ([], 1)) := Lib.hid fun h j hj h2 => by
    rw [hG]
    unfold groupK
    rw [if_neg (by omega), if_pos]
    rcases h2 with h2 | h2
    · rw [show by_.all (inK kinds) = false from List.all_eq_false.2 ⟨_, List.getElem_mem hj, by rw [h2]; decide⟩]
      rfl
    · rw [decide_eq_false (nodup_bad hj h2), Bool.and_false]
  have Hag : Hid (¬ 8 < n3 + n4 → (∀ c ∈ by_, inK kinds c = true) → by_.Nodup → ∀ j (hj : j < l.length), aggOk kinds l[j] = false → G = ([], 1)) := Lib.hid fun h h2 h5 j hj h6 => by
    rw [hG]
    unfold groupK
    rw [if_neg (by omega), if_neg (by rw [List.all_eq_true.2 h2, decide_eq_true h5]; decide), if_pos (List.all_eq_false.2 ⟨_, List.getElem_mem hj, by rw [h6]; decide⟩)]
  have Hend : Hid (¬ 8 < n3 + n4 → (∀ c ∈ by_, inK kinds c = true) → by_.Nodup → (∀ x ∈ l, aggOk kinds x = true) → G = if l.any (aggBad kinds) = true then ([], 7) else (by_.map (fun c => kinds.getD c.toNat 0) ++ l.map (aggK kinds), 0)) := Lib.hid fun h h2 h5 h6 => by
    rw [hG]
    unfold groupK
    rw [if_neg (by omega), if_neg (by rw [List.all_eq_true.2 h2, decide_eq_true h5]; decide), if_neg (by rw [List.all_eq_true.2 h6]; decide)]
  obtain ⟨wb, hwb⟩ : ∃ x, x = w.alloc (.cells #[.slice K kn kc] 35) := ⟨_, rfl⟩
  have Hbx : Hid (Blk wb w.heap.size 35 [.slice K kn kc]) := by
    show Blk _ _ _ _
    rw [hwb]
    exact Blk.new w _ _
  have Hbb : Hid (Below w.heap.size w wb) := by
    show Below _ _ _
    rw [hwb]
    exact (Below.refl _ _).alloc (Nat.le_refl _) _
  have HK := Lib.hid (hK.below Hbb.out)
  have HB := Lib.hid (hB.below Hbb.out)
  have HL := Lib.hid (hL.below Hbb.out)
  have His : Hid (∀ (w' : World) (col : Int), w'.cell? ⟨w.heap.size, 0, none⟩ = some (.slice K kn kc) → Calls Tryd.prog 62 #[.int .i64 col, .pointer (some ⟨w.heap.size, 0, none⟩)] w' fun e w'' => e = .returned (.bool (inK kinds col)) ∧ w' = w'') := Lib.hid fun w' col h => is_any kinds K kn kc w.heap.size col w' hkn h
  clear hkn hK h3 hB hc3 h4 hL hG
  by_cases h8 : 8 < (n3 : Int) + (n4 : Int)
  · have HG2 := Lib.hid (Hlong.out (by omega))
    go_enter Tryd.func48, Tryd.ntmps48
    go_wp2_with fail
    rw [← hwb]
    go_ret2
    exact ⟨⟨none, 0, by rw [HG2.out]; rfl, by rw [HG2.out]; exact Own.nil _ _ _ _⟩, Hbb.out⟩
  · have h8n : ¬ 8 < n3 + n4 := by omega
    go_enter Tryd.func48, Tryd.ntmps48
    go_wp2_with (with_reducible refine holdAt 22 ?_)
    rw [← hwb]
    (with_reducible refine unhold ?_)
    go_wp2_with fail
    go_loopw [9, 25] (fun vo vi wr => ∃ (j : Nat) (A : Option Addr) (d : Nat), vo = .slice A j d ∧ vi = .int .i64 j ∧ j ≤ n3 ∧ Hid (∀ c ∈ by_.take j, inK kinds c = true) ∧ Hid ((by_.take j).Nodup) ∧ Hid (Own wr wb.heap.size 5 1 A j d (kcells ((by_.take j).map fun c => kinds.getD c.toNat 0))) ∧ Hid (Below wb.heap.size wb wr)) (fun _ vi _ => n3 - (intOf vi).toNat)
    case atStart => exact ⟨0, none, 0, rfl, rfl, by omega, by (show ∀ k ∈ ([] : List Int), _); simp, (show ([] : List Int).Nodup from List.nodup_nil), Own.nil _ _ _ _, (by rw [← hwb]; exact Below.refl _ _)⟩
    case round =>
      obtain ⟨j, A, d, rfl, rfl, hj, Hin, Hnd, Ho, Hb⟩ := hrel
      by_cases hjn : j < n3
      · have hjI : (j : Int) < (n3 : Int) := by omega
        have hjI0 : (0 : Int) ≤ (j : Int) := by omega
        have hjl : j < by_.length := by rw [H3.out]; exact hjn
        have hjc : j ≤ c3 := by omega
        have hkb := (Hbx.out.below Hb.out).cell 0
        simp only [List.getElem?_cons_zero] at hkb
        obtain ⟨b, o, hLe, c0⟩ := (HB.out.below Hb.out).num hjl
        have Hbad := Lib.hid (Hby.out h8n j hjl)
        have hts := List.take_succ_eq_append_getElem hjl
        have Hts := Lib.hid hts
        have Hct := Lib.hid (fun x => intc_any (by_.take j) x a3 j c3 wr (by rw [List.length_take]; omega) (icl_left j (HB.out.below Hb.out)) (by omega))
        clear hts
        subst hLe
        generalize by_[j] = x at *
        clear hjl
        by_cases hik : inK kinds x = true
        · have his : Calls Tryd.prog 62 #[.int .i64 x, .pointer (some ⟨w.heap.size, 0, none⟩)] wr fun e w'' => e = .returned (.bool true) ∧ wr = w'' := by
            have := His.out wr x hkb
            rwa [hik] at this
          have His2 := Lib.hid his
          clear his
          by_cases hxi : x ∈ by_.take j
          · have HG2 := Lib.hid (Hbad.out (.inr hxi))
            have hct := Hct.out x
            rw [decide_eq_true hxi] at hct
            have Hct2 := Lib.hid hct
            have Hfin := Lib.hid (Hbb.out.trans (Hb.out.mono Hbb.out.size))
            clear hct hxi hik Hbad
            go_wp2_with fail
            refine His2.out.mono ?_
            rintro e w1 ⟨rfl, rfl⟩
            go_wp2_with fail
            refine Hct2.out.mono ?_
            rintro e w1 ⟨rfl, rfl⟩
            go_wp2_with fail
            go_ret2
            exact ⟨⟨none, 0, by rw [HG2.out]; rfl, by rw [HG2.out]; exact Own.nil _ _ _ _⟩, Hfin.out⟩
          · have hct := Hct.out x
            rw [decide_eq_false hxi] at hct
            have Hct2 := Lib.hid hct
            have Hin2 : Hid (∀ c ∈ by_.take (j + 1), inK kinds c = true) := Lib.hid fun c hc => by
              rw [Hts.out, List.mem_append, List.mem_singleton] at hc
              rcases hc with hc | rfl
              · exact Hin.out c hc
              · exact hik
            have Hnd2 : Hid ((by_.take (j + 1)).Nodup) := by
              show List.Nodup _
              rw [Hts.out, List.nodup_append]
              exact ⟨Hnd.out, by simp, fun a ha b hb e => by
                rw [List.mem_singleton] at hb
                rw [e, hb] at ha
                exact hxi ha⟩
            obtain ⟨hc1, hc2⟩ := of_decide_eq_true (show decide (0 ≤ x ∧ x < (kinds.length : Int)) = true from hik)
            obtain ⟨cN, rfl⟩ := Int.eq_ofNat_of_zero_le hc1
            have hcl : cN < kinds.length := by omega
            obtain ⟨qb, qo, hKe, g0⟩ := (HK.out.below Hb.out).kind hcl
            have Hgd : Hid (kinds.getD (cN : Int).toNat 0 = kinds[cN]) := by
              show _ = _
              rw [Int.toNat_natCast, List.getD_eq_getElem?_getD, List.getElem?_eq_getElem hcl]
              rfl
            have hck : cN < kn := by rw [← Hkn.out]; exact hcl
            have hcI : (cN : Int) < (kn : Int) := by omega
            have hcI0 : (0 : Int) ≤ (cN : Int) := by omega
            subst hKe
            generalize kinds[cN] = kv at *
            have hbA : Below wr.heap.size wr (wr.alloc (.cells #[.int .u8 kv] 5)) := (Below.refl _ _).alloc (Nat.le_refl _) _
            have ho3 := Ho.out.below hbA
            have hb3 := Hb.out.trans (hbA.mono Hb.out.size)
            have hz3 := hb3.size
            have hnew := (Blk.new wr 5 #[.int .u8 kv]).range
            have Hys : Hid (kcells ((by_.take j).map fun c => kinds.getD c.toNat 0) ++ [.int .u8 kv] = kcells ((by_.take (j + 1)).map fun c => kinds.getD c.toNat 0)) := by
              show _ = _
              rw [Hts.out, List.map_append, ← kcells_app]
              show _ = _ ++ [Value.int .u8 (kinds.getD (cN : Int).toNat 0)]
              rw [Hgd.out]
            clear hct hxi hik Hbad hc1 hc2 hcl hbA
            go_wp2_with fail
            refine His2.out.mono ?_
            rintro e w1 ⟨rfl, rfl⟩
            go_wp2_with fail
            refine Hct2.out.mono ?_
            rintro e w1 ⟨rfl, rfl⟩
            go_wp2_with (first | (at_builtin; refine hold ?_) | (at_make; refine hold ?_))
            (with_reducible refine unhold ?_)
            refine wpList_apd rfl _ _ _ rfl E8 wb.heap.size _ j _ _ rfl ho3 _ 1 _ [.int .u8 kv] rfl rfl (fun _ => ⟨_, _, rfl, hnew⟩) (by simp [Value.oneCell']) (j + 1) rfl _ Hys.out (by omega) (by omega) hz3 ?_
            intro A5 d5 w9 ho9 hg9 _
            have Hb9 := Lib.hid (hb3.grown hg9 hz3 ho3.row_ge)
            have Ho9 := Lib.hid ho9
            clear ho9 hg9 ho3 hb3 hnew hz3
            go_wp2_with fail
            go_roundw
            case rel => exact ⟨j + 1, A5, d5, rfl, by go_num, by omega, Hin2, Hnd2, Ho9, Hb9⟩
            case measure => simp [intOf]; omega
        · have hik2 : inK kinds x = false := Bool.eq_false_iff.2 hik
          have HG2 := Lib.hid (Hbad.out (.inl hik2))
          have his : Calls Tryd.prog 62 #[.int .i64 x, .pointer (some ⟨w.heap.size, 0, none⟩)] wr fun e w'' => e = .returned (.bool false) ∧ wr = w'' := by
            have := His.out wr x hkb
            rwa [hik2] at this
          have His2 := Lib.hid his
          have Hfin := Lib.hid (Hbb.out.trans (Hb.out.mono Hbb.out.size))
          clear his hik hik2 Hbad
          go_wp2_with fail
          refine His2.out.mono ?_
          rintro e w1 ⟨rfl, rfl⟩
          go_wp2_with fail
          go_ret2
          exact ⟨⟨none, 0, by rw [HG2.out]; rfl, by rw [HG2.out]; exact Own.nil _ _ _ _⟩, Hfin.out⟩
      · obtain rfl : j = n3 := by omega
        have htk : by_.take j = by_ := List.take_of_length_le (by rw [H3.out]; exact Nat.le_refl _)
        obtain ⟨bk, hbk⟩ : ∃ bk, bk = by_.map (fun c => kinds.getD c.toNat 0) := ⟨_, rfl⟩
        have Hbk := Lib.hid hbk
        have Ho2 : Hid (Own wr wb.heap.size 5 1 A j d (kcells (bk ++ (l.take 0).map (aggK kinds)))) := by
          show Own _ _ _ _ _ _ _ _
          have := Ho.out
          rw [htk, ← hbk] at this
          simpa using this
        have Hin2 : Hid (∀ c ∈ by_, inK kinds c = true) := by have := Hin.out; rwa [htk] at this
        have Hnd2 : Hid (by_.Nodup) := by have := Hnd.out; rwa [htk] at this
        have Hag2 := Lib.hid (Hag.out h8n Hin2.out Hnd2.out)
        have Hend2 := Lib.hid (Hend.out h8n Hin2.out Hnd2.out)
        clear hbk Ho Hin Hnd Hag Hend Hby htk
        generalize wr = w3 at *
        go_wp2_with fail
        go_loopw [9, 12, 51] (fun vo ve vi wr => ∃ (q m : Nat) (A : Option Addr) (d : Nat) (ev : Int), vo = .slice A m d ∧ ve = .int .i64 ev ∧ vi = .int .i64 q ∧ q ≤ n4 ∧ m ≤ 40 ∧ Hid (m = j + q) ∧ Hid (ev = if (l.take q).any (aggBad kinds) = true then (7 : Int) else 0) ∧ Hid (∀ x ∈ l.take q, aggOk kinds x = true) ∧ Hid (Own wr wb.heap.size 5 1 A m d (kcells (bk ++ (l.take q).map (aggK kinds)))) ∧ Hid (Below wb.heap.size wb wr)) (fun _ _ vi _ => n4 - (intOf vi).toNat)
        case atStart => exact ⟨0, _, _, _, 0, rfl, rfl, rfl, by omega, by omega, rfl, rfl, by (show ∀ k ∈ ([] : List Ag), _); simp, Ho2, Hb⟩
        case round =>
          obtain ⟨q, m, A9, d9, ev, rfl, rfl, rfl, hj4, hm4, Hm, Hev, Hok, Ho, Hb⟩ := hrel
          by_cases hqn : q < n4
          · have hqI : (q : Int) < (n4 : Int) := by omega
            have hqI0 : (0 : Int) ≤ (q : Int) := by omega
            have hql : q < l.length := by rw [H4.out]; exact hqn
            have hm39 : m ≤ 30 := by have := Hm.out; omega
            obtain ⟨b, o, hLe, c0, c1⟩ := (HL.out.below Hb.out).ag hql
            have Hag := Lib.hid (Hag2.out q hql)
            have hts := List.take_succ_eq_append_getElem hql
            have Hts := Lib.hid hts
            clear hts
            subst hLe
            generalize l[q] = x at *
            obtain ⟨op, col⟩ := x
            dsimp only at c0 c1 Hag
            have hkb : (wr.alloc (.cells #[.int .u8 op, .int .i64 col] 65)).cell? ⟨w.heap.size, 0, none⟩ = some (.slice K kn kc) := ((Hbx.out.below Hb.out).alloc _).cell 0
            have hbK : Below wb.heap.size wb (wr.alloc (.cells #[.int .u8 op, .int .i64 col] 65)) := Hb.out.alloc Hb.out.size _
            have Hbf := Lib.hid (Hbb.out.trans (hbK.mono Hbb.out.size))
            by_cases ho1 : op = 1
            · subst ho1
              by_cases hc0 : col = 0
              · subst hc0
                have hbA : Below wr.heap.size wr ((wr.alloc (.cells #[.int .u8 1, .int .i64 0] 65)).alloc (.cells #[.int .u8 2] 5)) := ((Below.refl _ _).alloc (Nat.le_refl _) _).alloc (by simp) _
                have ho3 := Ho.out.below hbA
                have hb3 := Hb.out.trans (hbA.mono Hb.out.size)
                have hz3 := hb3.size
                have hnew := two_new wr (.cells #[.int .u8 1, .int .i64 0] 65) 5 (.int .u8 2)
                have Hys : Hid (kcells (bk ++ (l.take q).map (aggK kinds)) ++ [.int .u8 2] = kcells (bk ++ (l.take (q + 1)).map (aggK kinds))) := by
                  show _ = _
                  have hk9 : aggK kinds ⟨1, 0⟩ = 2 := by
                    (show (if (1 : Int) = 4 ∨ (1 : Int) = 5 then _ else (2 : Int)) = 2; exact if_neg (by decide))
                  show kcells _ ++ kcells [2] = _
                  rw [kcells_app, Hts.out, List.map_append, List.map_cons, List.map_nil, hk9, List.append_assoc]
                have Hok2 : Hid (∀ x ∈ l.take (q + 1), aggOk kinds x = true) := Lib.hid fun x hx => by
                  rw [Hts.out, List.mem_append, List.mem_singleton] at hx
                  rcases hx with hx | rfl
                  · exact Hok.out x hx
                  · exact rfl
                have Hev2 : Hid (ev = if (l.take (q + 1)).any (aggBad kinds) = true then (7 : Int) else 0) := by
                  show _ = _
                  rw [Hts.out, List.any_append, List.any_cons, List.any_nil, Bool.or_false]
                  rw [show aggBad kinds ⟨1, 0⟩ = false from decide_eq_false (fun h => absurd (show (1 : Int) = 3 from h.1) (by decide)), Bool.or_false]; exact Hev.out
                clear hbA
                go_wp2_with (first | (at_builtin; refine hold ?_) | (at_make; refine hold ?_))
                (with_reducible refine unhold ?_)
                refine wpList_apd rfl _ _ _ rfl E8 wb.heap.size _ m _ _ rfl ho3 _ 1 _ [.int .u8 2] rfl rfl (fun _ => ⟨_, _, rfl, hnew⟩) (by simp [Value.oneCell']) (m + 1) rfl _ Hys.out (by omega) (by omega) hz3 ?_
                intro A5 d5 w9 ho9 hg9 _
                have Hb9 := Lib.hid (hb3.grown hg9 hz3 ho3.row_ge)
                have Ho9 := Lib.hid ho9
                clear ho9 hg9 ho3 hb3 hnew hz3
                go_wp2_with fail
                go_roundw
                case rel => exact ⟨q + 1, m + 1, A5, d5, _, rfl, rfl, by go_num, by omega, by omega, (show m + 1 = j + (q + 1) by have := Hm.out; omega), Hev2, Hok2, Ho9, Hb9⟩
                case measure => simp [intOf]; omega
              · have e1 : (col == 0) = false := by rw [beq_eq_false_iff_ne]; exact hc0
                have e2 : (col != 0) = true := by simpa using hc0
                have HG2 := Lib.hid (Hag.out (show aggOk kinds ⟨1, col⟩ = false from decide_eq_false hc0))
                clear Hag
                go_wp2_with fail
                go_ret2
                exact ⟨⟨none, 0, by rw [HG2.out]; rfl, by rw [HG2.out]; exact Own.nil _ _ _ _⟩, Hbf.out⟩
            · skip
              by_cases ho2 : op = 2
              · subst ho2
                have his := His.out _ col hkb
                by_cases hik : inK kinds col = true
                · rw [hik] at his
                  have His2 := Lib.hid his
                  clear his
                  obtain ⟨hc1, hc2⟩ := of_decide_eq_true (show decide (0 ≤ col ∧ col < (kinds.length : Int)) = true from hik)
                  obtain ⟨cN, rfl⟩ := Int.eq_ofNat_of_zero_le hc1
                  have hcl : cN < kinds.length := by omega
                  obtain ⟨qb, qo, hKe, g0⟩ := (HK.out.below hbK).kind hcl
                  have Hgd : Hid (kinds.getD (cN : Int).toNat 0 = kinds[cN]) := by
                    show _ = _
                    rw [Int.toNat_natCast, List.getD_eq_getElem?_getD, List.getElem?_eq_getElem hcl]
                    rfl
                  have hck : cN < kn := by rw [← Hkn.out]; exact hcl
                  have hcI : (cN : Int) < (kn : Int) := by omega
                  have hcI0 : (0 : Int) ≤ (cN : Int) := by omega
                  subst hKe
                  have hok : aggOk kinds ⟨2, (cN : Int)⟩ = true := by
                    show (if (2 : Int) = 1 then _ else decide (2 ≤ (2 : Int) ∧ (2 : Int) ≤ 5) && inK kinds (cN : Int)) = true
                    rw [if_neg (by decide), hik]
                    rfl
                  generalize kinds[cN] = kv at *
                  clear hc1 hc2 hik hcl hbK
                  go_wp2_with fail
                  refine His2.out.mono ?_
                  rintro e w1 ⟨rfl, rfl⟩
                  have hbA : Below wr.heap.size wr ((wr.alloc (.cells #[.int .u8 2, .int .i64 (cN : Int)] 65)).alloc (.cells #[.int .u8 2] 5)) := ((Below.refl _ _).alloc (Nat.le_refl _) _).alloc (by simp) _
                  have ho3 := Ho.out.below hbA
                  have hb3 := Hb.out.trans (hbA.mono Hb.out.size)
                  have hz3 := hb3.size
                  have hnew := two_new wr (.cells #[.int .u8 2, .int .i64 (cN : Int)] 65) 5 (.int .u8 2)
                  have Hys : Hid (kcells (bk ++ (l.take q).map (aggK kinds)) ++ [.int .u8 2] = kcells (bk ++ (l.take (q + 1)).map (aggK kinds))) := by
                    show _ = _
                    have hk9 : aggK kinds ⟨2, (cN : Int)⟩ = 2 := by
                      (show (if (2 : Int) = 4 ∨ (2 : Int) = 5 then _ else (2 : Int)) = 2; exact if_neg (by decide))
                    show kcells _ ++ kcells [2] = _
                    rw [kcells_app, Hts.out, List.map_append, List.map_cons, List.map_nil, hk9, List.append_assoc]
                  have Hok2 : Hid (∀ x ∈ l.take (q + 1), aggOk kinds x = true) := Lib.hid fun x hx => by
                    rw [Hts.out, List.mem_append, List.mem_singleton] at hx
                    rcases hx with hx | rfl
                    · exact Hok.out x hx
                    · exact hok
                  have Hev2 : Hid (ev = if (l.take (q + 1)).any (aggBad kinds) = true then (7 : Int) else 0) := by
                    show _ = _
                    rw [Hts.out, List.any_append, List.any_cons, List.any_nil, Bool.or_false]
                    rw [show aggBad kinds ⟨2, (cN : Int)⟩ = false from decide_eq_false (fun h => absurd (show (2 : Int) = 3 from h.1) (by decide)), Bool.or_false]; exact Hev.out
                  clear hbA
                  go_wp2_with (first | (at_builtin; refine hold ?_) | (at_make; refine hold ?_))
                  (with_reducible refine unhold ?_)
                  refine wpList_apd rfl _ _ _ rfl E8 wb.heap.size _ m _ _ rfl ho3 _ 1 _ [.int .u8 2] rfl rfl (fun _ => ⟨_, _, rfl, hnew⟩) (by simp [Value.oneCell']) (m + 1) rfl _ Hys.out (by omega) (by omega) hz3 ?_
                  intro A5 d5 w9 ho9 hg9 _
                  have Hb9 := Lib.hid (hb3.grown hg9 hz3 ho3.row_ge)
                  have Ho9 := Lib.hid ho9
                  clear ho9 hg9 ho3 hb3 hnew hz3
                  go_wp2_with fail
                  go_roundw
                  case rel => exact ⟨q + 1, m + 1, A5, d5, _, rfl, rfl, by go_num, by omega, by omega, (show m + 1 = j + (q + 1) by have := Hm.out; omega), Hev2, Hok2, Ho9, Hb9⟩
                  case measure => simp [intOf]; omega
                · have hik2 : inK kinds col = false := Bool.eq_false_iff.2 hik
                  rw [hik2] at his
                  have His2 := Lib.hid his
                  clear his hik
                  have HG2 := Lib.hid (Hag.out (show (if (2 : Int) = 1 then _ else decide (2 ≤ (2 : Int) ∧ (2 : Int) ≤ 5) && inK kinds col) = false by rw [if_neg (by decide), hik2]; rfl))
                  clear Hag
                  go_wp2_with fail
                  refine His2.out.mono ?_
                  rintro e w1 ⟨rfl, rfl⟩
                  go_wp2_with fail
                  go_ret2
                  exact ⟨⟨none, 0, by rw [HG2.out]; rfl, by rw [HG2.out]; exact Own.nil _ _ _ _⟩, Hbf.out⟩
              · skip
                by_cases ho3 : op = 3
                · subst ho3
                  have his := His.out _ col hkb
                  by_cases hik : inK kinds col = true
                  · rw [hik] at his
                    have His2 := Lib.hid his
                    clear his
                    obtain ⟨hc1, hc2⟩ := of_decide_eq_true (show decide (0 ≤ col ∧ col < (kinds.length : Int)) = true from hik)
                    obtain ⟨cN, rfl⟩ := Int.eq_ofNat_of_zero_le hc1
                    have hcl : cN < kinds.length := by omega
                    obtain ⟨qb, qo, hKe, g0⟩ := (HK.out.below hbK).kind hcl
                    have Hgd : Hid (kinds.getD (cN : Int).toNat 0 = kinds[cN]) := by
                      show _ = _
                      rw [Int.toNat_natCast, List.getD_eq_getElem?_getD, List.getElem?_eq_getElem hcl]
                      rfl
                    have hck : cN < kn := by rw [← Hkn.out]; exact hcl
                    have hcI : (cN : Int) < (kn : Int) := by omega
                    have hcI0 : (0 : Int) ≤ (cN : Int) := by omega
                    subst hKe
                    have hok : aggOk kinds ⟨3, (cN : Int)⟩ = true := by
                      show (if (3 : Int) = 1 then _ else decide (2 ≤ (3 : Int) ∧ (3 : Int) ≤ 5) && inK kinds (cN : Int)) = true
                      rw [if_neg (by decide), hik]
                      rfl
                    generalize kinds[cN] = kv at *
                    clear hc1 hc2 hik hcl hbK
                    by_cases hk2 : kv = 2
                    · subst hk2
                      go_wp2_with fail
                      refine His2.out.mono ?_
                      rintro e w1 ⟨rfl, rfl⟩
                      have hbA : Below wr.heap.size wr ((wr.alloc (.cells #[.int .u8 3, .int .i64 (cN : Int)] 65)).alloc (.cells #[.int .u8 2] 5)) := ((Below.refl _ _).alloc (Nat.le_refl _) _).alloc (by simp) _
                      have ho3 := Ho.out.below hbA
                      have hb3 := Hb.out.trans (hbA.mono Hb.out.size)
                      have hz3 := hb3.size
                      have hnew := two_new wr (.cells #[.int .u8 3, .int .i64 (cN : Int)] 65) 5 (.int .u8 2)
                      have Hys : Hid (kcells (bk ++ (l.take q).map (aggK kinds)) ++ [.int .u8 2] = kcells (bk ++ (l.take (q + 1)).map (aggK kinds))) := by
                        show _ = _
                        have hk9 : aggK kinds ⟨3, (cN : Int)⟩ = 2 := by
                          (show (if (3 : Int) = 4 ∨ (3 : Int) = 5 then _ else (2 : Int)) = 2; exact if_neg (by decide))
                        show kcells _ ++ kcells [2] = _
                        rw [kcells_app, Hts.out, List.map_append, List.map_cons, List.map_nil, hk9, List.append_assoc]
                      have Hok2 : Hid (∀ x ∈ l.take (q + 1), aggOk kinds x = true) := Lib.hid fun x hx => by
                        rw [Hts.out, List.mem_append, List.mem_singleton] at hx
                        rcases hx with hx | rfl
                        · exact Hok.out x hx
                        · exact hok
                      have Hev2 : Hid (ev = if (l.take (q + 1)).any (aggBad kinds) = true then (7 : Int) else 0) := by
                        show _ = _
                        rw [Hts.out, List.any_append, List.any_cons, List.any_nil, Bool.or_false]
                        rw [show aggBad kinds ⟨3, (cN : Int)⟩ = false from decide_eq_false (fun h => h.2 (Hgd.out)), Bool.or_false]; exact Hev.out
                      clear hbA
                      go_wp2_with (first | (at_builtin; refine hold ?_) | (at_make; refine hold ?_))
                      (with_reducible refine unhold ?_)
                      refine wpList_apd rfl _ _ _ rfl E8 wb.heap.size _ m _ _ rfl ho3 _ 1 _ [.int .u8 2] rfl rfl (fun _ => ⟨_, _, rfl, hnew⟩) (by simp [Value.oneCell']) (m + 1) rfl _ Hys.out (by omega) (by omega) hz3 ?_
                      intro A5 d5 w9 ho9 hg9 _
                      have Hb9 := Lib.hid (hb3.grown hg9 hz3 ho3.row_ge)
                      have Ho9 := Lib.hid ho9
                      clear ho9 hg9 ho3 hb3 hnew hz3
                      go_wp2_with fail
                      go_roundw
                      case rel => exact ⟨q + 1, m + 1, A5, d5, _, rfl, rfl, by go_num, by omega, by omega, (show m + 1 = j + (q + 1) by have := Hm.out; omega), Hev2, Hok2, Ho9, Hb9⟩
                      case measure => simp [intOf]; omega
                    · have e1 : (kv == 2) = false := by rw [beq_eq_false_iff_ne]; exact hk2
                      have e2 : (kv != 2) = true := by simpa using hk2
                      go_wp2_with fail
                      refine His2.out.mono ?_
                      rintro e w1 ⟨rfl, rfl⟩
                      have hbA : Below wr.heap.size wr ((wr.alloc (.cells #[.int .u8 3, .int .i64 (cN : Int)] 65)).alloc (.cells #[.int .u8 2] 5)) := ((Below.refl _ _).alloc (Nat.le_refl _) _).alloc (by simp) _
                      have ho3 := Ho.out.below hbA
                      have hb3 := Hb.out.trans (hbA.mono Hb.out.size)
                      have hz3 := hb3.size
                      have hnew := two_new wr (.cells #[.int .u8 3, .int .i64 (cN : Int)] 65) 5 (.int .u8 2)
                      have Hys : Hid (kcells (bk ++ (l.take q).map (aggK kinds)) ++ [.int .u8 2] = kcells (bk ++ (l.take (q + 1)).map (aggK kinds))) := by
                        show _ = _
                        have hk9 : aggK kinds ⟨3, (cN : Int)⟩ = 2 := by
                          (show (if (3 : Int) = 4 ∨ (3 : Int) = 5 then _ else (2 : Int)) = 2; exact if_neg (by decide))
                        show kcells _ ++ kcells [2] = _
                        rw [kcells_app, Hts.out, List.map_append, List.map_cons, List.map_nil, hk9, List.append_assoc]
                      have Hok2 : Hid (∀ x ∈ l.take (q + 1), aggOk kinds x = true) := Lib.hid fun x hx => by
                        rw [Hts.out, List.mem_append, List.mem_singleton] at hx
                        rcases hx with hx | rfl
                        · exact Hok.out x hx
                        · exact hok
                      have Hev2 : Hid (7 = if (l.take (q + 1)).any (aggBad kinds) = true then (7 : Int) else 0) := by
                        show _ = _
                        rw [Hts.out, List.any_append, List.any_cons, List.any_nil, Bool.or_false]
                        rw [show aggBad kinds ⟨3, (cN : Int)⟩ = true from decide_eq_true ⟨rfl, by rw [Hgd.out]; exact hk2⟩, Bool.or_true, if_pos rfl]
                      clear hbA
                      go_wp2_with (first | (at_builtin; refine hold ?_) | (at_make; refine hold ?_))
                      (with_reducible refine unhold ?_)
                      refine wpList_apd rfl _ _ _ rfl E8 wb.heap.size _ m _ _ rfl ho3 _ 1 _ [.int .u8 2] rfl rfl (fun _ => ⟨_, _, rfl, hnew⟩) (by simp [Value.oneCell']) (m + 1) rfl _ Hys.out (by omega) (by omega) hz3 ?_
                      intro A5 d5 w9 ho9 hg9 _
                      have Hb9 := Lib.hid (hb3.grown hg9 hz3 ho3.row_ge)
                      have Ho9 := Lib.hid ho9
                      clear ho9 hg9 ho3 hb3 hnew hz3
                      go_wp2_with fail
                      go_roundw
                      case rel => exact ⟨q + 1, m + 1, A5, d5, _, rfl, rfl, by go_num, by omega, by omega, (show m + 1 = j + (q + 1) by have := Hm.out; omega), Hev2, Hok2, Ho9, Hb9⟩
                      case measure => simp [intOf]; omega
                  · have hik2 : inK kinds col = false := Bool.eq_false_iff.2 hik
                    rw [hik2] at his
                    have His2 := Lib.hid his
                    clear his hik
                    have HG2 := Lib.hid (Hag.out (show (if (3 : Int) = 1 then _ else decide (2 ≤ (3 : Int) ∧ (3 : Int) ≤ 5) && inK kinds col) = false by rw [if_neg (by decide), hik2]; rfl))
                    clear Hag
                    go_wp2_with fail
                    refine His2.out.mono ?_
                    rintro e w1 ⟨rfl, rfl⟩
                    go_wp2_with fail
                    go_ret2
                    exact ⟨⟨none, 0, by rw [HG2.out]; rfl, by rw [HG2.out]; exact Own.nil _ _ _ _⟩, Hbf.out⟩
                · skip
                  by_cases ho4 : op = 4
                  · subst ho4
                    have his := His.out _ col hkb
                    by_cases hik : inK kinds col = true
                    · rw [hik] at his
                      have His2 := Lib.hid his
                      clear his
                      obtain ⟨hc1, hc2⟩ := of_decide_eq_true (show decide (0 ≤ col ∧ col < (kinds.length : Int)) = true from hik)
                      obtain ⟨cN, rfl⟩ := Int.eq_ofNat_of_zero_le hc1
                      have hcl : cN < kinds.length := by omega
                      obtain ⟨qb, qo, hKe, g0⟩ := (HK.out.below hbK).kind hcl
                      have Hgd : Hid (kinds.getD (cN : Int).toNat 0 = kinds[cN]) := by
                        show _ = _
                        rw [Int.toNat_natCast, List.getD_eq_getElem?_getD, List.getElem?_eq_getElem hcl]
                        rfl
                      have hck : cN < kn := by rw [← Hkn.out]; exact hcl
                      have hcI : (cN : Int) < (kn : Int) := by omega
                      have hcI0 : (0 : Int) ≤ (cN : Int) := by omega
                      subst hKe
                      have hok : aggOk kinds ⟨4, (cN : Int)⟩ = true := by
                        show (if (4 : Int) = 1 then _ else decide (2 ≤ (4 : Int) ∧ (4 : Int) ≤ 5) && inK kinds (cN : Int)) = true
                        rw [if_neg (by decide), hik]
                        rfl
                      generalize kinds[cN] = kv at *
                      clear hc1 hc2 hik hcl hbK
                      go_wp2_with fail
                      refine His2.out.mono ?_
                      rintro e w1 ⟨rfl, rfl⟩
                      have hbA : Below wr.heap.size wr ((wr.alloc (.cells #[.int .u8 4, .int .i64 (cN : Int)] 65)).alloc (.cells #[.int .u8 kv] 5)) := ((Below.refl _ _).alloc (Nat.le_refl _) _).alloc (by simp) _
                      have ho3 := Ho.out.below hbA
                      have hb3 := Hb.out.trans (hbA.mono Hb.out.size)
                      have hz3 := hb3.size
                      have hnew := two_new wr (.cells #[.int .u8 4, .int .i64 (cN : Int)] 65) 5 (.int .u8 kv)
                      have Hys : Hid (kcells (bk ++ (l.take q).map (aggK kinds)) ++ [.int .u8 kv] = kcells (bk ++ (l.take (q + 1)).map (aggK kinds))) := by
                        show _ = _
                        have hk9 : aggK kinds ⟨4, (cN : Int)⟩ = kv := by
                          exact (show (if (4 : Int) = 4 ∨ (4 : Int) = 5 then kinds.getD (cN : Int).toNat 0 else 2) = kv from (if_pos (by decide)).trans Hgd.out)
                        show kcells _ ++ kcells [kv] = _
                        rw [kcells_app, Hts.out, List.map_append, List.map_cons, List.map_nil, hk9, List.append_assoc]
                      have Hok2 : Hid (∀ x ∈ l.take (q + 1), aggOk kinds x = true) := Lib.hid fun x hx => by
                        rw [Hts.out, List.mem_append, List.mem_singleton] at hx
                        rcases hx with hx | rfl
                        · exact Hok.out x hx
                        · exact hok
                      have Hev2 : Hid (ev = if (l.take (q + 1)).any (aggBad kinds) = true then (7 : Int) else 0) := by
                        show _ = _
                        rw [Hts.out, List.any_append, List.any_cons, List.any_nil, Bool.or_false]
                        rw [show aggBad kinds ⟨4, (cN : Int)⟩ = false from decide_eq_false (fun h => absurd (show (4 : Int) = 3 from h.1) (by decide)), Bool.or_false]; exact Hev.out
                      clear hbA
                      go_wp2_with (first | (at_builtin; refine hold ?_) | (at_make; refine hold ?_))
                      (with_reducible refine unhold ?_)
                      refine wpList_apd rfl _ _ _ rfl E8 wb.heap.size _ m _ _ rfl ho3 _ 1 _ [.int .u8 kv] rfl rfl (fun _ => ⟨_, _, rfl, hnew⟩) (by simp [Value.oneCell']) (m + 1) rfl _ Hys.out (by omega) (by omega) hz3 ?_
                      intro A5 d5 w9 ho9 hg9 _
                      have Hb9 := Lib.hid (hb3.grown hg9 hz3 ho3.row_ge)
                      have Ho9 := Lib.hid ho9
                      clear ho9 hg9 ho3 hb3 hnew hz3
                      go_wp2_with fail
                      go_roundw
                      case rel => exact ⟨q + 1, m + 1, A5, d5, _, rfl, rfl, by go_num, by omega, by omega, (show m + 1 = j + (q + 1) by have := Hm.out; omega), Hev2, Hok2, Ho9, Hb9⟩
                      case measure => simp [intOf]; omega
                    · have hik2 : inK kinds col = false := Bool.eq_false_iff.2 hik
                      rw [hik2] at his
                      have His2 := Lib.hid his
                      clear his hik
                      have HG2 := Lib.hid (Hag.out (show (if (4 : Int) = 1 then _ else decide (2 ≤ (4 : Int) ∧ (4 : Int) ≤ 5) && inK kinds col) = false by rw [if_neg (by decide), hik2]; rfl))
                      clear Hag
                      go_wp2_with fail
                      refine His2.out.mono ?_
                      rintro e w1 ⟨rfl, rfl⟩
                      go_wp2_with fail
                      go_ret2
                      exact ⟨⟨none, 0, by rw [HG2.out]; rfl, by rw [HG2.out]; exact Own.nil _ _ _ _⟩, Hbf.out⟩
                  · skip
                    by_cases ho5 : op = 5
                    · subst ho5
                      have his := His.out _ col hkb
                      by_cases hik : inK kinds col = true
                      · rw [hik] at his
                        have His2 := Lib.hid his
                        clear his
                        obtain ⟨hc1, hc2⟩ := of_decide_eq_true (show decide (0 ≤ col ∧ col < (kinds.length : Int)) = true from hik)
                        obtain ⟨cN, rfl⟩ := Int.eq_ofNat_of_zero_le hc1
                        have hcl : cN < kinds.length := by omega
                        obtain ⟨qb, qo, hKe, g0⟩ := (HK.out.below hbK).kind hcl
                        have Hgd : Hid (kinds.getD (cN : Int).toNat 0 = kinds[cN]) := by
                          show _ = _
                          rw [Int.toNat_natCast, List.getD_eq_getElem?_getD, List.getElem?_eq_getElem hcl]
                          rfl
                        have hck : cN < kn := by rw [← Hkn.out]; exact hcl
                        have hcI : (cN : Int) < (kn : Int) := by omega
                        have hcI0 : (0 : Int) ≤ (cN : Int) := by omega
                        subst hKe
                        have hok : aggOk kinds ⟨5, (cN : Int)⟩ = true := by
                          show (if (5 : Int) = 1 then _ else decide (2 ≤ (5 : Int) ∧ (5 : Int) ≤ 5) && inK kinds (cN : Int)) = true
                          rw [if_neg (by decide), hik]
                          rfl
                        generalize kinds[cN] = kv at *
                        clear hc1 hc2 hik hcl hbK
                        go_wp2_with fail
                        refine His2.out.mono ?_
                        rintro e w1 ⟨rfl, rfl⟩
                        have hbA : Below wr.heap.size wr ((wr.alloc (.cells #[.int .u8 5, .int .i64 (cN : Int)] 65)).alloc (.cells #[.int .u8 kv] 5)) := ((Below.refl _ _).alloc (Nat.le_refl _) _).alloc (by simp) _
                        have ho3 := Ho.out.below hbA
                        have hb3 := Hb.out.trans (hbA.mono Hb.out.size)
                        have hz3 := hb3.size
                        have hnew := two_new wr (.cells #[.int .u8 5, .int .i64 (cN : Int)] 65) 5 (.int .u8 kv)
                        have Hys : Hid (kcells (bk ++ (l.take q).map (aggK kinds)) ++ [.int .u8 kv] = kcells (bk ++ (l.take (q + 1)).map (aggK kinds))) := by
                          show _ = _
                          have hk9 : aggK kinds ⟨5, (cN : Int)⟩ = kv := by
                            exact (show (if (5 : Int) = 4 ∨ (5 : Int) = 5 then kinds.getD (cN : Int).toNat 0 else 2) = kv from (if_pos (by decide)).trans Hgd.out)
                          show kcells _ ++ kcells [kv] = _
                          rw [kcells_app, Hts.out, List.map_append, List.map_cons, List.map_nil, hk9, List.append_assoc]
                        have Hok2 : Hid (∀ x ∈ l.take (q + 1), aggOk kinds x = true) := Lib.hid fun x hx => by
                          rw [Hts.out, List.mem_append, List.mem_singleton] at hx
                          rcases hx with hx | rfl
                          · exact Hok.out x hx
                          · exact hok
                        have Hev2 : Hid (ev = if (l.take (q + 1)).any (aggBad kinds) = true then (7 : Int) else 0) := by
                          show _ = _
                          rw [Hts.out, List.any_append, List.any_cons, List.any_nil, Bool.or_false]
                          rw [show aggBad kinds ⟨5, (cN : Int)⟩ = false from decide_eq_false (fun h => absurd (show (5 : Int) = 3 from h.1) (by decide)), Bool.or_false]; exact Hev.out
                        clear hbA
                        go_wp2_with (first | (at_builtin; refine hold ?_) | (at_make; refine hold ?_))
                        (with_reducible refine unhold ?_)
                        refine wpList_apd rfl _ _ _ rfl E8 wb.heap.size _ m _ _ rfl ho3 _ 1 _ [.int .u8 kv] rfl rfl (fun _ => ⟨_, _, rfl, hnew⟩) (by simp [Value.oneCell']) (m + 1) rfl _ Hys.out (by omega) (by omega) hz3 ?_
                        intro A5 d5 w9 ho9 hg9 _
                        have Hb9 := Lib.hid (hb3.grown hg9 hz3 ho3.row_ge)
                        have Ho9 := Lib.hid ho9
                        clear ho9 hg9 ho3 hb3 hnew hz3
                        go_wp2_with fail
                        go_roundw
                        case rel => exact ⟨q + 1, m + 1, A5, d5, _, rfl, rfl, by go_num, by omega, by omega, (show m + 1 = j + (q + 1) by have := Hm.out; omega), Hev2, Hok2, Ho9, Hb9⟩
                        case measure => simp [intOf]; omega
                      · have hik2 : inK kinds col = false := Bool.eq_false_iff.2 hik
                        rw [hik2] at his
                        have His2 := Lib.hid his
                        clear his hik
                        have HG2 := Lib.hid (Hag.out (show (if (5 : Int) = 1 then _ else decide (2 ≤ (5 : Int) ∧ (5 : Int) ≤ 5) && inK kinds col) = false by rw [if_neg (by decide), hik2]; rfl))
                        clear Hag
                        go_wp2_with fail
                        refine His2.out.mono ?_
                        rintro e w1 ⟨rfl, rfl⟩
                        go_wp2_with fail
                        go_ret2
                        exact ⟨⟨none, 0, by rw [HG2.out]; rfl, by rw [HG2.out]; exact Own.nil _ _ _ _⟩, Hbf.out⟩
                    · skip
                      have f1 : (op == 1) = false := by rw [beq_eq_false_iff_ne]; exact ho1
                      have f2 : (op == 2) = false := by rw [beq_eq_false_iff_ne]; exact ho2
                      have f3 : (op == 3) = false := by rw [beq_eq_false_iff_ne]; exact ho3
                      have f4 : (op == 4) = false := by rw [beq_eq_false_iff_ne]; exact ho4
                      have f5 : (op == 5) = false := by rw [beq_eq_false_iff_ne]; exact ho5
                      have HG2 := Lib.hid (Hag.out (show (if op = 1 then _ else decide (2 ≤ op ∧ op ≤ 5) && inK kinds col) = false by rw [if_neg ho1, decide_eq_false (by omega)]; rfl))
                      clear Hag
                      go_wp2_with fail
                      go_ret2
                      exact ⟨⟨none, 0, by rw [HG2.out]; rfl, by rw [HG2.out]; exact Own.nil _ _ _ _⟩, Hbf.out⟩
          · obtain rfl : q = n4 := by omega
            have htk : l.take q = l := List.take_of_length_le (by rw [H4.out]; exact Nat.le_refl _)
            have hok := Hok.out
            rw [htk] at hok
            have hev := Hev.out
            rw [htk] at hev
            have hge := Hend2.out hok
            have Ho2 := Ho.out
            rw [htk] at Ho2
            have Hfin := Lib.hid (Hbb.out.trans (Hb.out.mono Hbb.out.size))
            by_cases hany : l.any (aggBad kinds) = true
            · rw [if_pos hany] at hev hge
              subst hev
              have HG2 := Lib.hid hge
              clear hany hge hok htk
              go_wp2_with fail
              go_ret2
              exact ⟨⟨none, 0, by rw [HG2.out]; rfl, by rw [HG2.out]; exact Own.nil _ _ _ _⟩, Hfin.out⟩
            · rw [if_neg hany, ← Hbk.out] at hge
              rw [if_neg hany] at hev
              subst hev
              have HG2 := Lib.hid hge
              have HO := Lib.hid (Ho2.lower Hbb.out.size)
              have Hml : Hid ((bk ++ l.map (aggK kinds)).length = m) := by
                show _ = _
                have := Ho2.1
                rw [kcells_len, Nat.mul_one] at this
                exact this
              clear hany hge hok htk Ho2
              go_wp2_with fail
              go_ret2
              exact ⟨⟨A9, d9, by rw [HG2.out, Hml.out]; rfl, by rw [HG2.out, Hml.out]; exact HO.out⟩, Hfin.out⟩
  end Go.Proofs.YtheafcfbahdcfaaDoor
