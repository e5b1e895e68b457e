/- Walks: which tables may be: the program's. Walks: whether a number is in a list; the tables that a query joins: the program's. -/
import Derived.Test.YtheafcfbahdcfaaDoorMQyG
namespace Go.Proofs.YtheafcfbahdcfaaDoor
set_option linter.unusedVariables false
set_option linter.unusedSimpArgs false
open Go.RowKit

attribute [local go_sem ↓] Go.wp_at_zero Go.wp_at_succ

set_option maxHeartbeats 4000000 in
set_option maxRecDepth 100000 in
theorem tables_any (l : List Th) (L : Option Addr) (n c : Nat) (w : World) (hl : l.length = n) (hL : Tin w L l) (hf : FewT (l.map Th.t)) :
    Calls Tryd.prog 13 #[.slice L n c] w fun e w' => e = .returned (.int .i64 (if tablesOk (l.map Th.t) = true then 0 else 230)) ∧ Below w.heap.size w w' := by
  have Hl := Lib.hid hl
  have HL := Lib.hid hL
  have Hf := Lib.hid hf
  obtain ⟨R, hRR⟩ : ∃ R : Int, R = if tablesOk (l.map Th.t) = true then 0 else 230 := ⟨_, rfl⟩
  rw [← hRR]
  have hbad : Hid (∀ j (hj : j < l.length), (tableOk (l[j]).t = false ∨ placeT (l.map Th.t) (l[j]).t.name < (j : Int)) → R = 230) := by
    show ∀ _, _
    intro j hj h
    rw [hRR, if_neg]
    intro h2
    have h3 := ((tablesOk_iff _).1 h2).2 j (by rw [List.length_map]; exact hj)
    rw [List.getElem_map] at h3
    rcases h with h | h
    · rw [h] at h3; exact absurd h3.1 (by decide)
    · exact h3.2 h
  have hlong : Hid (¬ (1 ≤ n ∧ n ≤ 4) → R = 230) := by
    show _ → _
    intro h
    rw [hRR, if_neg]
    intro h2
    have h3 := ((tablesOk_iff _).1 h2).1
    rw [List.length_map, hl] at h3
    exact h h3
  have hgood : Hid ((1 ≤ n ∧ n ≤ 4) → (∀ j (hj : j < l.length), tableOk (l[j]).t = true ∧ (j : Int) ≤ placeT (l.map Th.t) (l[j]).t.name) → R = 0) := by
    show _ → _ → _
    intro h h2
    rw [hRR, if_pos]
    refine (tablesOk_iff _).2 ⟨by rw [List.length_map, hl]; exact h, fun j hj => ?_⟩
    rw [List.length_map] at hj
    rw [List.getElem_map]
    exact ⟨(h2 j hj).1, Int.not_lt.2 (h2 j hj).2⟩
  clear hl hL hf hRR
  by_cases h1 : (n : Int) < 1
  · have HR := Lib.hid (hlong.out (by omega))
    go_enter Tryd.func13, Tryd.ntmps13
    go_wp2_with fail
    go_ret
    exact ⟨by rw [HR.out]; rfl, Below.refl _ _⟩
  · by_cases h2 : 4 < (n : Int)
    · have HR := Lib.hid (hlong.out (by omega))
      go_enter Tryd.func13, Tryd.ntmps13
      go_wp2_with fail
      go_ret
      exact ⟨by rw [HR.out]; rfl, Below.refl _ _⟩
    · go_enter Tryd.func13, Tryd.ntmps13
      go_wp2_with fail
      go_loopw [15] (fun vi wr => ∃ j : Nat, vi = .int .i64 j ∧ j ≤ n ∧ Hid (∀ i (hi : i < l.length), i < j → tableOk (l[i]).t = true ∧ (i : Int) ≤ placeT (l.map Th.t) (l[i]).t.name) ∧ Hid (Below w.heap.size w wr)) (fun vi _ => n - (intOf vi).toNat)
      case atStart => exact ⟨0, rfl, by omega, (fun i _ h => by omega), Below.refl _ _⟩
      case round =>
        obtain ⟨j, rfl, hj, Hall, Hb⟩ := hrel
        by_cases hjn : j < n
        · have hjI : (j : Int) < (n : Int) := by omega
          have hjI0 : (0 : Int) ≤ (j : Int) := by omega
          have hjl : j < l.length := by rw [Hl.out]; exact hjn
          have hT := HL.out.below Hb.out
          obtain ⟨b, o, hLe, c0, c1⟩ := hT.rd.table hjl
          have Hfind := Lib.hid (fun w' (hw : Below w.heap.size w w') => find_any (l[j]).t.name l L n c w' Hl.out (HL.out.below hw).rd (by omega))
          have Hname := Lib.hid (fun w' => named_any (l[j]).t.name w' (Hf.out.names _ (List.mem_map.2 ⟨_, List.getElem_mem hjl, rfl⟩)))
          have Hkin := Lib.hid (fun w' (hw : Below w.heap.size w w') => qconts_any (l[j]).t.kinds (l[j]).a _ (l[j]).c w' rfl ((HL.out.below hw).kinds _ (List.getElem_mem hjl)) (by have := Hf.out.kinds (l[j]).t (List.mem_map.2 ⟨_, List.getElem_mem hjl, rfl⟩); omega))
          have Hno := Lib.hid (hbad.out j hjl)
          have Hyes : Hid (tableOk (l[j]).t = true → ¬ placeT (l.map Th.t) (l[j]).t.name < (j : Int) → (∀ i (hi : i < l.length), i < j + 1 → tableOk (l[i]).t = true ∧ (i : Int) ≤ placeT (l.map Th.t) (l[i]).t.name)) := by
            show _ → _ → _
            intro h3 h4 i hi hij
            by_cases e : i = j
            · subst e; exact ⟨h3, Int.not_lt.1 h4⟩
            · exact Hall.out i hi (by omega)
          subst hLe
          obtain ⟨x, hxe⟩ : ∃ x, x = l[j] := ⟨_, rfl⟩
          rw [← hxe] at c0 c1 Hfind Hname Hkin Hno Hyes
          clear hxe hT
          obtain ⟨⟨nm, kn⟩, a, cc⟩ := x
          dsimp only at c0 c1 Hfind Hname Hkin Hno Hyes
          obtain ⟨P, hP⟩ : ∃ P, P = placeT (l.map Th.t) nm := ⟨_, rfl⟩
          rw [← hP] at Hfind Hno Hyes
          clear hP
          have hto : tableOk ⟨nm, kn⟩ = (nameOk nm && decide (1 ≤ kn.length ∧ kn.length ≤ 8) && kn.all kindT) := rfl
          rw [hto] at Hno Hyes
          clear hto
          obtain ⟨al, hal⟩ : ∃ al, al = kn.all kindT := ⟨_, rfl⟩
          rw [← hal] at Hno Hyes Hkin
          clear hal
          generalize kn.length = m at *
          generalize nameOk nm = ok at *
          generalize wr = wo at *
          have hbl := Blk.new wo 44 #[.string (St8 nm), .slice a m cc]
          have hb0 : Below wo.heap.size wo (wo.alloc (.cells #[.string (St8 nm), .slice a m cc] 44)) := (Below.refl _ _).alloc (Nat.le_refl _) _
          have Hc : Hid (∀ w', Below (wo.alloc (.cells #[.string (St8 nm), .slice a m cc] 44)).heap.size (wo.alloc (.cells #[.string (St8 nm), .slice a m cc] 44)) w' → w'.cell? ⟨wo.heap.size, 0, none⟩ = some (.string (St8 nm)) ∧ w'.cell? ⟨wo.heap.size, 1, none⟩ = some (.slice a m cc) ∧ Hid (Below w.heap.size w w')) := fun w' hb => ⟨(hbl.below hb).cell 0, (hbl.below hb).cell 1, Hb.out.trans ((hb0.trans (hb.mono hb0.size)).mono Hb.out.size)⟩
          clear hbl hb0 hjl
          cases ok
          · have HR := Lib.hid (Hno.out (.inl (by simp)))
            clear Hno Hyes Hfind Hkin
            go_wp2_with fail
            refine (Hname.out _).mono ?_
            rintro e w1 ⟨rfl, hb1⟩
            obtain ⟨k0, k1, Hb1⟩ := Hc.out w1 hb1
            go_wp2_with fail
            go_ret
            exact ⟨by rw [HR.out]; rfl, Hb1.out⟩
          · by_cases hP : P < (j : Int)
            · have HR := Lib.hid (Hno.out (.inr hP))
              clear Hno Hyes Hkin
              go_wp2_with fail
              refine (Hname.out _).mono ?_
              rintro e w1 ⟨rfl, hb1⟩
              obtain ⟨k0, k1, Hb1⟩ := Hc.out w1 hb1
              go_wp2_with fail
              refine (Hfind.out w1 Hb1.out).mono ?_
              rintro e w2 ⟨rfl, hb2⟩
              have Hb2 := Lib.hid (Hb1.out.trans (hb2.mono Hb1.out.size))
              go_wp2_with fail
              go_ret
              exact ⟨by rw [HR.out]; rfl, Hb2.out⟩
            · by_cases hm1 : (m : Int) < 1
              · have HR := Lib.hid (Hno.out (.inl (by rw [decide_eq_false (by omega)]; simp)))
                clear Hno Hyes Hkin
                go_wp2_with fail
                refine (Hname.out _).mono ?_
                rintro e w1 ⟨rfl, hb1⟩
                obtain ⟨k0, k1, Hb1⟩ := Hc.out w1 hb1
                go_wp2_with fail
                refine (Hfind.out w1 Hb1.out).mono ?_
                rintro e w2 ⟨rfl, hb2⟩
                obtain ⟨k02, k12, Hb2⟩ := Hc.out w2 (hb1.trans (hb2.mono hb1.size))
                go_wp2_with fail
                go_ret
                exact ⟨by rw [HR.out]; rfl, Hb2.out⟩
              · by_cases hm2 : 8 < (m : Int)
                · have HR := Lib.hid (Hno.out (.inl (by rw [decide_eq_false (by omega)]; simp)))
                  clear Hno Hyes Hkin
                  go_wp2_with fail
                  refine (Hname.out _).mono ?_
                  rintro e w1 ⟨rfl, hb1⟩
                  obtain ⟨k0, k1, Hb1⟩ := Hc.out w1 hb1
                  go_wp2_with fail
                  refine (Hfind.out w1 Hb1.out).mono ?_
                  rintro e w2 ⟨rfl, hb2⟩
                  obtain ⟨k02, k12, Hb2⟩ := Hc.out w2 (hb1.trans (hb2.mono hb1.size))
                  go_wp2_with fail
                  go_ret
                  exact ⟨by rw [HR.out]; rfl, Hb2.out⟩
                · cases al
                  · have HR := Lib.hid (Hno.out (.inl (by simp)))
                    clear Hno Hyes
                    go_wp2_with fail
                    refine (Hname.out _).mono ?_
                    rintro e w1 ⟨rfl, hb1⟩
                    obtain ⟨k0, k1, Hb1⟩ := Hc.out w1 hb1
                    go_wp2_with fail
                    refine (Hfind.out w1 Hb1.out).mono ?_
                    rintro e w2 ⟨rfl, hb2⟩
                    obtain ⟨k02, k12, Hb2⟩ := Hc.out w2 (hb1.trans (hb2.mono hb1.size))
                    go_wp2_with fail
                    refine (Hkin.out w2 Hb2.out).mono ?_
                    rintro e w3 ⟨rfl, rfl⟩
                    go_wp2_with fail
                    go_ret
                    exact ⟨by rw [HR.out]; rfl, Hb2.out⟩
                  · have HR := Lib.hid (Hyes.out (by rw [decide_eq_true (by omega)]; simp) hP)
                    clear Hno Hyes
                    go_wp2_with fail
                    refine (Hname.out _).mono ?_
                    rintro e w1 ⟨rfl, hb1⟩
                    obtain ⟨k0, k1, Hb1⟩ := Hc.out w1 hb1
                    go_wp2_with fail
                    refine (Hfind.out w1 Hb1.out).mono ?_
                    rintro e w2 ⟨rfl, hb2⟩
                    obtain ⟨k02, k12, Hb2⟩ := Hc.out w2 (hb1.trans (hb2.mono hb1.size))
                    go_wp2_with fail
                    refine (Hkin.out w2 Hb2.out).mono ?_
                    rintro e w3 ⟨rfl, rfl⟩
                    go_wp2_with fail
                    go_roundw
                    case rel => exact ⟨j + 1, by go_num, by omega, HR, Hb2⟩
                    case measure => simp [intOf]; omega
        · have HR := Lib.hid (hgood.out (by omega) (fun i hi => Hall.out i hi (by rw [Hl.out] at hi; omega)))
          go_wp2_with fail
          go_ret
          exact ⟨by rw [HR.out]; rfl, Hb.out⟩
end Go.Proofs.YtheafcfbahdcfaaDoor
namespace Go.Proofs.YtheafcfbahdcfaaDoor
set_option linter.unusedVariables false
set_option linter.unusedSimpArgs false
open Go.RowKit

attribute [local go_sem ↓] Go.wp_at_zero Go.wp_at_succ

set_option maxHeartbeats 4000000 in
set_option maxRecDepth 100000 in
theorem inti_any (l : List Int) (x : Int) (L : Option Addr) (n c : Nat) (w : World) (hl : l.length = n) (hL : Rd w L (icl l)) (hn : n ≤ 1000000) :
    Calls Tryd.prog 42 #[.slice L n c, .int .i64 x] w fun e w' => (∃ i : Int, e = .returned (.int .i64 i) ∧ (0 ≤ i ↔ x ∈ l)) ∧ w = w' := by
  have Hl := Lib.hid hl
  have HL := Lib.hid hL
  clear hl hL
  go_enter Tryd.func42, Tryd.ntmps42
  go_wp2_with fail
  go_loopw [8] (fun vi wr => ∃ j : Nat, vi = .int .i64 j ∧ j ≤ n ∧ Hid (x ∉ l.take j) ∧ Hid (wr = w)) (fun vi _ => n - (intOf vi).toNat)
  case atStart => exact ⟨0, rfl, by omega, by show x ∉ _; simp, rfl⟩
  case round =>
    obtain ⟨j, rfl, hj, Hno, Hw⟩ := hrel
    obtain rfl := Hw.out.symm
    by_cases hjn : j < n
    · have hjI : (j : Int) < (n : Int) := by omega
      have hjI0 : (0 : Int) ≤ (j : Int) := by omega
      have hjl : j < l.length := by rw [Hl.out]; exact hjn
      obtain ⟨b, o, hLe, c0⟩ := HL.out.num hjl
      have Hin := Lib.hid (List.getElem_mem hjl)
      have Hnext : Hid (x ≠ l[j] → x ∉ l.take (j + 1)) := by
        show _ → _
        intro h h2
        rw [List.take_succ_eq_append_getElem hjl, List.mem_append, List.mem_singleton] at h2
        exact h2.elim Hno.out h
      subst hLe
      generalize l[j] = y at *
      clear hjl
      by_cases e : x = y
      · subst e
        go_wp2_with fail
        go_ret
        exact ⟨⟨_, rfl, fun _ => Hin.out, fun _ => hjI0⟩, rfl⟩
      · have e1 : (x == y) = false := by rw [beq_eq_false_iff_ne]; exact e
        have HN := Lib.hid (Hnext.out e)
        clear e Hnext
        go_wp2_with fail
        go_roundw
        case rel => exact ⟨j + 1, by go_num, by omega, HN, trivial⟩
        case measure => simp [intOf]; omega
    · have HN : Hid (x ∉ l) := by
        show x ∉ l
        have := Hno.out
        rwa [List.take_of_length_le (by rw [Hl.out]; omega)] at this
      go_wp2_with fail
      go_ret
      exact ⟨⟨-1, rfl, fun h => absurd h (by decide), fun h => absurd h HN.out⟩, rfl⟩

set_option maxRecDepth 100000 in
theorem intc_any (l : List Int) (x : Int) (L : Option Addr) (n c : Nat) (w : World) (hl : l.length = n) (hL : Rd w L (icl l)) (hn : n ≤ 1000000) :
    Calls Tryd.prog 19 #[.slice L n c, .int .i64 x] w fun e w' => e = .returned (.bool (decide (x ∈ l))) ∧ w = w' := by
  have hi := Lib.hid (inti_any l x L n c w hl hL hn)
  obtain ⟨R, hR⟩ : ∃ R, R = decide (x ∈ l) := ⟨_, rfl⟩
  rw [← hR]
  have HR := Lib.hid hR
  clear hl hL hR
  go_enter Tryd.func19, Tryd.ntmps19
  go_wp2_with fail
  refine hi.out.mono ?_
  rintro e w1 ⟨⟨i, rfl, h1⟩, rfl⟩
  by_cases h0 : 0 ≤ i
  · have H2 := Lib.hid (h1.1 h0)
    clear h1
    go_wp2_with fail
    go_ret
    exact ⟨by rw [HR.out, decide_eq_true H2.out]; rfl, rfl⟩
  · have H2 := Lib.hid (fun h => h0 (h1.2 h))
    have Hd := Lib.hid (decide_eq_false h0)
    clear h1
    go_wp2_with fail
    go_ret
    exact ⟨by rw [HR.out, decide_eq_false H2.out]; exact congrArg (fun b => Ending.returned (.bool b)) Hd.out, rfl⟩
end Go.Proofs.YtheafcfbahdcfaaDoor
