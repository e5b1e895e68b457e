/- Walks: which tables may be: the reference's. Walks: which tables may be: the reference's Tables. -/
import Derived.Test.YtheafcfbahdcfaaDoorMQyG
namespace Go.Proofs.YtheafcfbahdcfaaDoor
set_option linter.unusedVariables false
set_option linter.unusedSimpArgs false
open Go.RowKit

attribute [local go_sem ↓] Go.wp_at_zero Go.wp_at_succ

theorem all_step {s : List UInt8} {j : Nat} (hj : j < s.length) : (s.take (j + 1)).all nameB = ((s.take j).all nameB && nameB (s.getD j 0)) := by
  rw [List.take_succ_eq_append_getElem hj, List.all_append]
  simp [List.getD, hj]
theorem all_bad {s : List UInt8} {j : Nat} (hj : j < s.length) (h : nameB (s.getD j 0) = false) : nameOk s = false := by
  unfold nameOk
  have h1 : s.all nameB = false := by
    rw [List.all_eq_false]
    refine ⟨s[j], List.getElem_mem hj, ?_⟩
    have e : s.getD j 0 = s[j] := by simp [List.getD, hj]
    rw [← e, h]
    decide
  rw [h1]
  rfl
theorem nameB_u8 (b : UInt8) (u : Int) (hu : (b.toNat : Int) = u) : nameB b = (decide (97 ≤ u ∧ u ≤ 122) || decide (48 ≤ u ∧ u ≤ 57) || decide (u = 95)) := by
  subst hu
  unfold nameB
  have e1 : decide (97 ≤ b.toNat ∧ b.toNat ≤ 122) = decide (97 ≤ (b.toNat : Int) ∧ (b.toNat : Int) ≤ 122) := decide_eq_decide.2 (by omega)
  have e2 : decide (48 ≤ b.toNat ∧ b.toNat ≤ 57) = decide (48 ≤ (b.toNat : Int) ∧ (b.toNat : Int) ≤ 57) := decide_eq_decide.2 (by omega)
  have e3 : decide (b.toNat = 95) = decide ((b.toNat : Int) = 95) := decide_eq_decide.2 (by omega)
  rw [e1, e2, e3]
theorem St8_at (s : List UInt8) (j : Nat) (h : j < (St8 s).size) : (((St8 s)[j]'h).toNat : Int) = ((s.getD j 0).toNat : Int) := by
  have hj : j < s.length := by rwa [St8_size] at h
  have e : (St8 s)[j]'h = s.getD j 0 := by
    have e1 : (St8 s)[j]'h = s[j] := rfl
    rw [e1]
    simp [List.getD, hj]
  rw [e]
set_option maxHeartbeats 4000000 in
set_option maxRecDepth 100000 in
theorem rname_any (s : List UInt8) (w : World) (hs : s.length ≤ 1000000) :
    Calls Tryd.prog 33 #[.string (St8 s)] w fun e w' => e = .returned (.bool (nameOk s)) ∧ w' = w := by
  have hz := St8_size s
  obtain ⟨n, hn⟩ : ∃ n, s.length = n := ⟨_, rfl⟩
  rw [hn] at hz hs
  have Hn := Lib.hid hn
  obtain ⟨R, hRR⟩ : ∃ R, R = nameOk s := ⟨_, rfl⟩
  rw [← hRR]
  have Hbad : Hid (∀ j, j < n → nameB (s.getD j 0) = false → R = false) := Lib.hid fun j hj h => by
    rw [hRR]; exact all_bad (by rw [hn]; exact hj) h
  have Hgood : Hid ((s.take n).all nameB = true → R = decide (1 ≤ n ∧ n ≤ 20)) := Lib.hid fun h => by
    rw [hRR]
    rw [← hn, List.take_length] at h
    unfold nameOk
    rw [h, Bool.true_and, hn]
  have Hat := Lib.hid (St8_at s)
  clear hRR hn
  go_enter Tryd.func33, Tryd.ntmps33
  go_wp2_with fail
  go_loopw [3] (fun vi wr => ∃ j : Nat, vi = .int .i64 j ∧ j ≤ n ∧ Hid ((s.take j).all nameB = true) ∧ Hid (wr = w)) (fun vi _ => n - (intOf vi).toNat)
  case atStart => exact ⟨0, rfl, by omega, rfl, rfl⟩
  case round =>
    obtain ⟨j, rfl, hj, Hall, Hw⟩ := hrel
    by_cases hjn : j < n
    · have hjI : (j : Int) < (n : Int) := by omega
      have hjI0 : (0 : Int) ≤ (j : Int) := by omega
      have hjz : (j : Int) < ((St8 s).size : Int) := by rw [hz]; exact hjI
      have hv := Hat.out j
      have hnb := nameB_u8 (s.getD j 0) _ rfl
      have hb2 := Hbad.out j hjn
      have hstep : nameB (s.getD j 0) = true → (s.take (j + 1)).all nameB = true := fun h => by
        rw [all_step (by rw [Hn.out]; exact hjn), Hall.out, h]; rfl
      rw [hnb] at hb2 hstep
      clear hnb Hbad Hgood Hat
      generalize ((s.getD j 0).toNat : Int) = v at *
      have Hb2 := Lib.hid hb2
      have Hstep := Lib.hid hstep
      clear hb2 hstep
      by_cases g1 : 97 ≤ v
      · by_cases g2 : v ≤ 122
        · have HY := Lib.hid (Hstep.out (by rw [decide_eq_true ⟨g1, g2⟩]; rfl))
          clear Hb2 Hstep
          go_wp2_with fail
          go_roundw
          case rel => exact ⟨j + 1, by go_num, by omega, HY, Hw⟩
          case measure => simp [intOf]; omega
        · by_cases g5 : v = 95
          · omega
          · have g5b : (v != 95) = true := by rw [bne_iff_ne]; exact g5
            have g3 : 48 ≤ v := by omega
            have g4 : ¬ v ≤ 57 := by omega
            have HR := Lib.hid (Hb2.out (by rw [decide_eq_false (by omega), decide_eq_false (by omega), decide_eq_false (by omega)]; rfl))
            clear Hb2 Hstep
            go_wp2_with fail
            go_ret
            exact ⟨by rw [HR.out]; rfl, Hw.out⟩
      · by_cases g3 : 48 ≤ v
        · by_cases g4 : v ≤ 57
          · have HY := Lib.hid (Hstep.out (by rw [decide_eq_true (p := 48 ≤ v ∧ v ≤ 57) ⟨g3, g4⟩]; simp))
            clear Hb2 Hstep
            go_wp2_with fail
            go_roundw
            case rel => exact ⟨j + 1, by go_num, by omega, HY, Hw⟩
            case measure => simp [intOf]; omega
          · by_cases g5 : v = 95
            · have g5b : (v != 95) = false := by rw [g5]; rfl
              have HY := Lib.hid (Hstep.out (by rw [decide_eq_true g5]; simp))
              clear Hb2 Hstep
              go_wp2_with fail
              go_roundw
              case rel => exact ⟨j + 1, by go_num, by omega, HY, Hw⟩
              case measure => simp [intOf]; omega
            · have g5b : (v != 95) = true := by rw [bne_iff_ne]; exact g5
              have HR := Lib.hid (Hb2.out (by rw [decide_eq_false (by omega), decide_eq_false (by omega), decide_eq_false (by omega)]; rfl))
              clear Hb2 Hstep
              go_wp2_with fail
              go_ret
              exact ⟨by rw [HR.out]; rfl, Hw.out⟩
        · have g5b : (v != 95) = true := by rw [bne_iff_ne]; omega
          have HR := Lib.hid (Hb2.out (by rw [decide_eq_false (by omega), decide_eq_false (by omega), decide_eq_false (by omega)]; rfl))
          clear Hb2 Hstep
          go_wp2_with fail
          go_ret
          exact ⟨by rw [HR.out]; rfl, Hw.out⟩
    · obtain rfl : j = n := by omega
      have HR := Lib.hid (Hgood.out Hall.out)
      have hjI : ¬ (j : Int) < (j : Int) := by omega
      by_cases g1 : 1 ≤ j
      · have g1I : (1 : Int) ≤ (j : Int) := by omega
        by_cases g2 : j ≤ 20
        · have g2I : (j : Int) ≤ 20 := by omega
          have HR2 : Hid (R = true) := Lib.hid (HR.out.trans (decide_eq_true ⟨g1, g2⟩))
          clear HR
          go_wp2_with fail
          go_ret
          exact ⟨by rw [HR2.out]; rfl, Hw.out⟩
        · have g2I : ¬ (j : Int) ≤ 20 := by omega
          have HR2 : Hid (R = false) := Lib.hid (HR.out.trans (decide_eq_false (by omega)))
          have e2 : decide ((j : Int) ≤ 20) = false := decide_eq_false g2I
          clear HR g2I
          go_wp2_with fail
          go_ret
          exact ⟨by rw [HR2.out]; first | rfl | exact congrArg (fun b => Ending.returned (.bool b)) e2, Hw.out⟩
      · have g1I : ¬ (1 : Int) ≤ (j : Int) := by omega
        have HR2 : Hid (R = false) := Lib.hid (HR.out.trans (decide_eq_false (by omega)))
        have e2 : decide ((1 : Int) ≤ (j : Int)) = false := decide_eq_false g1I
        clear HR g1I
        go_wp2_with fail
        go_ret
        exact ⟨by rw [HR2.out]; first | rfl | exact congrArg (fun b => Ending.returned (.bool b)) e2, Hw.out⟩

set_option maxHeartbeats 4000000 in
set_option maxRecDepth 100000 in
theorem rplace_any (s : List UInt8) (l : List Th) (L : Option Addr) (n c : Nat) (w : World) (hl : l.length = n) (hL : Rd w L (thc l)) (hn : n ≤ 1000000) :
    Calls Tryd.prog 20 #[.slice L n c, .string (St8 s)] w fun e w' => e = .returned (.int .i64 (placeT (l.map Th.t) s)) ∧ w' = w := by
  have Hl := Lib.hid hl
  have HL := Lib.hid hL
  obtain ⟨R, hRR⟩ : ∃ R, R = placeT (l.map Th.t) s := ⟨_, rfl⟩
  rw [← hRR]
  have Hyes : Hid (∀ j (hj : j < l.length), (∀ i (hi : i < l.length), i < j → ¬ (l[i]).t.name = s) → (l[j]).t.name = s → R = (j : Int)) := Lib.hid fun j hj h h2 => by
    rw [hRR]
    unfold placeT
    rw [findT_at (l.map Th.t) s j (by rw [List.length_map]; exact hj) (fun i hi => by rw [List.getElem_map]; exact h i (by omega) hi) (by rw [List.getElem_map]; exact h2)]
  have Hno : Hid ((∀ i (hi : i < l.length), ¬ (l[i]).t.name = s) → R = -1) := Lib.hid fun h => by
    rw [hRR]
    unfold placeT
    rw [findT_no (l.map Th.t) s (fun i hi => by rw [List.getElem_map]; exact h i (by simpa using hi))]
  have Hcmp := Lib.hid (fun m => St8_cmp m s)
  clear hl hL hRR
  go_enter Tryd.func20, Tryd.ntmps20
  go_wp2_with fail
  go_loopw [5] (fun vi wr => ∃ j : Nat, vi = .int .i64 j ∧ j ≤ n ∧ Hid (∀ i (hi : i < l.length), i < j → ¬ (l[i]).t.name = s) ∧ Hid (wr = w)) (fun vi _ => n - (intOf vi).toNat)
  case atStart => exact ⟨0, rfl, by omega, (fun i _ h => by omega), rfl⟩
  case round =>
    obtain ⟨j, rfl, hj, Hall, Hw⟩ := hrel
    by_cases hjn : j < n
    · have hjI : (j : Int) < (n : Int) := by omega
      have hjI0 : (0 : Int) ≤ (j : Int) := by omega
      have hjl : j < l.length := by rw [Hl.out]; exact hjn
      have hT : Rd wr L (thc l) := by rw [Hw.out]; exact HL.out
      obtain ⟨b, o, hLe, c0, c1⟩ := hT.table hjl
      have hcc := Hcmp.out (l[j]).t.name
      have hy := Hyes.out j hjl Hall.out
      have hstep : ¬ (l[j]).t.name = s → (∀ i (hi : i < l.length), i < j + 1 → ¬ (l[i]).t.name = s) := fun h i hi hij => by
        by_cases e : i = j
        · subst e; exact h
        · exact Hall.out i hi (by omega)
      subst hLe
      generalize (l[j]).t.name = nm at *
      clear Hyes Hno c1 hT
      by_cases hx : nm = s
      · have HR := Lib.hid (hy hx)
        rw [decide_eq_true hx] at hcc
        clear hy hstep
        go_wp2_with fail
        go_ret
        exact ⟨by rw [HR.out]; rfl, Hw.out⟩
      · have HY := Lib.hid (hstep hx)
        rw [decide_eq_false hx] at hcc
        clear hy hstep
        go_wp2_with fail
        go_roundw
        case rel => exact ⟨j + 1, by go_num, by omega, HY, Hw⟩
        case measure => simp [intOf]; omega
    · obtain rfl : j = n := by omega
      have HR := Lib.hid (Hno.out fun i hi => Hall.out i hi (by rw [Hl.out] at hi; omega))
      have hjI : ¬ (j : Int) < (j : Int) := by omega
      clear Hyes Hno
      go_wp2_with fail
      go_ret
      exact ⟨by rw [HR.out]; rfl, Hw.out⟩
set_option maxRecDepth 100000 in
theorem rkind_any (k : Int) (w : World) : Calls Tryd.prog 34 #[.int .u8 k] w fun e w' => e = .returned (.bool (kindT k)) ∧ w' = w := by
  by_cases h1 : 1 ≤ k
  · by_cases h2 : k ≤ 3
    · have hk : Hid (kindT k = true) := Lib.hid (decide_eq_true ⟨h1, h2⟩)
      go_enter Tryd.func34, Tryd.ntmps34
      go_wp2_with fail
      go_ret
      exact ⟨by rw [hk.out]; rfl, rfl⟩
    · have hk : Hid (kindT k = false) := Lib.hid (decide_eq_false (fun h => h2 h.2))
      have e2 : decide (k ≤ 3) = false := decide_eq_false h2
      clear h2
      go_enter Tryd.func34, Tryd.ntmps34
      go_wp2_with fail
      go_ret
      exact ⟨by rw [hk.out]; first | rfl | exact congrArg (fun b => Ending.returned (.bool b)) e2, rfl⟩
  · have hk : Hid (kindT k = false) := Lib.hid (decide_eq_false (fun h => h1 h.1))
    have e2 : decide (1 ≤ k) = false := decide_eq_false h1
    clear h1
    go_enter Tryd.func34, Tryd.ntmps34
    go_wp2_with fail
    go_ret
    exact ⟨by rw [hk.out]; first | rfl | exact congrArg (fun b => Ending.returned (.bool b)) e2, rfl⟩
end Go.Proofs.YtheafcfbahdcfaaDoor
namespace Go.Proofs.YtheafcfbahdcfaaDoor
set_option linter.unusedVariables false
set_option linter.unusedSimpArgs false
open Go.RowKit

attribute [local go_sem ↓] Go.wp_at_zero Go.wp_at_succ

set_option maxHeartbeats 8000000 in
set_option maxRecDepth 100000 in
theorem rtables_any (l : List Th) (L : Option Addr) (n c : Nat) (w : World) (hl : l.length = n) (hL : Tin w L l) (hf : FewT (l.map Th.t)) :
    Calls Tryd.prog 14 #[.slice L n c] w fun e w' => e = .returned (.int .i64 (if tablesOk (l.map Th.t) = true then 0 else 230)) ∧ w' = w := by
  have Hl := Lib.hid hl
  have HL := Lib.hid hL
  have Hf := Lib.hid hf
  have hn12 := hf.len
  rw [List.length_map, hl] at hn12
  obtain ⟨R, hRR⟩ : ∃ R : Int, R = if tablesOk (l.map Th.t) = true then 0 else 230 := ⟨_, rfl⟩
  rw [← hRR]
  have hbad : Hid (∀ j (hj : j < l.length), (tableOk (l[j]).t = false ∨ placeT (l.map Th.t) (l[j]).t.name < (j : Int)) → R = 230) := by
    show ∀ _, _
    intro j hj h
    rw [hRR, if_neg]
    intro h2
    have h3 := ((tablesOk_iff _).1 h2).2 j (by rw [List.length_map]; exact hj)
    rw [List.getElem_map] at h3
    rcases h with h | h
    · rw [h] at h3; exact absurd h3.1 (by decide)
    · exact h3.2 h
  have hlong : Hid (¬ (1 ≤ n ∧ n ≤ 4) → R = 230) := by
    show _ → _
    intro h
    rw [hRR, if_neg]
    intro h2
    have h3 := ((tablesOk_iff _).1 h2).1
    rw [List.length_map, hl] at h3
    exact h h3
  have hgood : Hid ((1 ≤ n ∧ n ≤ 4) → (∀ j (hj : j < l.length), tableOk (l[j]).t = true ∧ (j : Int) ≤ placeT (l.map Th.t) (l[j]).t.name) → R = 0) := by
    show _ → _ → _
    intro h h2
    rw [hRR, if_pos]
    refine (tablesOk_iff _).2 ⟨by rw [List.length_map, hl]; exact h, fun j hj => ?_⟩
    rw [List.length_map] at hj
    rw [List.getElem_map]
    exact ⟨(h2 j hj).1, Int.not_lt.2 (h2 j hj).2⟩
  clear hl hL hf hRR
  by_cases h1 : (n : Int) < 1
  · have HR := Lib.hid (hlong.out (by omega))
    go_enter Tryd.func14, Tryd.ntmps14
    go_wp2_with fail
    go_ret
    exact ⟨by rw [HR.out]; rfl, rfl⟩
  · by_cases h2 : 4 < (n : Int)
    · have HR := Lib.hid (hlong.out (by omega))
      go_enter Tryd.func14, Tryd.ntmps14
      go_wp2_with fail
      go_ret
      exact ⟨by rw [HR.out]; rfl, rfl⟩
    · go_enter Tryd.func14, Tryd.ntmps14
      go_wp2_with fail
      go_loopw [3] (fun vi wr => ∃ j : Nat, vi = .int .i64 j ∧ j ≤ n ∧ Hid (∀ i (hi : i < l.length), i < j → tableOk (l[i]).t = true ∧ (i : Int) ≤ placeT (l.map Th.t) (l[i]).t.name) ∧ Hid (wr = w)) (fun vi _ => n - (intOf vi).toNat)
      case atStart => exact ⟨0, rfl, by omega, (fun i _ h => by omega), rfl⟩
      case round =>
        obtain ⟨j, rfl, hj, Hall, Hw⟩ := hrel
        have hww := Hw.out
        subst hww
        by_cases hjn : j < n
        · have hjI : (j : Int) < (n : Int) := by omega
          have hjI0 : (0 : Int) ≤ (j : Int) := by omega
          have hjl : j < l.length := by rw [Hl.out]; exact hjn
          obtain ⟨b, o, hLe, c0, c1⟩ := HL.out.rd.table hjl
          have Hfind := Lib.hid (fun w' (hw : w' = wr) => rplace_any (l[j]).t.name l L n c w' Hl.out (by rw [hw]; exact HL.out.rd) (by omega))
          have Hname := Lib.hid (rname_any (l[j]).t.name wr (Hf.out.names _ (List.mem_map.2 ⟨_, List.getElem_mem hjl, rfl⟩)))
          have Hkin := Lib.hid (HL.out.kinds _ (List.getElem_mem hjl))
          have Hno := Lib.hid (hbad.out j hjl)
          have Hyes : Hid (tableOk (l[j]).t = true → ¬ placeT (l.map Th.t) (l[j]).t.name < (j : Int) → (∀ i (hi : i < l.length), i < j + 1 → tableOk (l[i]).t = true ∧ (i : Int) ≤ placeT (l.map Th.t) (l[i]).t.name)) := by
            show _ → _ → _
            intro h3 h4 i hi hij
            by_cases e : i = j
            · subst e; exact ⟨h3, Int.not_lt.1 h4⟩
            · exact Hall.out i hi (by omega)
          subst hLe
          obtain ⟨x, hxe⟩ : ∃ x, x = l[j] := ⟨_, rfl⟩
          rw [← hxe] at c0 c1 Hfind Hname Hkin Hno Hyes
          clear hxe
          obtain ⟨⟨nm, kn⟩, a, cc⟩ := x
          dsimp only at c0 c1 Hfind Hname Hkin Hno Hyes
          obtain ⟨P, hP⟩ : ∃ P, P = placeT (l.map Th.t) nm := ⟨_, rfl⟩
          rw [← hP] at Hfind Hno Hyes
          clear hP
          have hto : tableOk ⟨nm, kn⟩ = (nameOk nm && decide (1 ≤ kn.length ∧ kn.length ≤ 8) && kn.all kindT) := rfl
          rw [hto] at Hno Hyes
          clear hto
          obtain ⟨m, hm⟩ : ∃ m, kn.length = m := ⟨_, rfl⟩
          rw [hm] at Hno Hyes c1
          have Hm := Lib.hid hm
          generalize nameOk nm = ok at *
          clear hjl hm hgood hbad hlong
          cases ok
          · have HR := Lib.hid (Hno.out (.inl (by simp)))
            clear Hno Hyes Hfind Hkin
            go_wp2_with fail
            refine Hname.out.mono ?_
            rintro e w1 ⟨rfl, hw1⟩
            subst hw1
            go_wp2_with fail
            go_ret
            exact ⟨by rw [HR.out]; rfl, rfl⟩
          · by_cases hP : P < (j : Int)
            · have HR := Lib.hid (Hno.out (.inr hP))
              clear Hno Hyes Hkin
              go_wp2_with fail
              refine Hname.out.mono ?_
              rintro e w1 ⟨rfl, hw1⟩
              subst hw1
              go_wp2_with fail
              refine (Hfind.out _ rfl).mono ?_
              rintro e w2 ⟨rfl, hw2⟩
              subst hw2
              go_wp2_with fail
              go_ret
              exact ⟨by rw [HR.out]; rfl, rfl⟩
            · by_cases hm1 : (m : Int) < 1
              · have HR := Lib.hid (Hno.out (.inl (by rw [decide_eq_false (by omega)]; simp)))
                clear Hno Hyes Hkin
                go_wp2_with fail
                refine Hname.out.mono ?_
                rintro e w1 ⟨rfl, hw1⟩
                subst hw1
                go_wp2_with fail
                refine (Hfind.out _ rfl).mono ?_
                rintro e w2 ⟨rfl, hw2⟩
                subst hw2
                go_wp2_with fail
                go_ret
                exact ⟨by rw [HR.out]; rfl, rfl⟩
              · by_cases hm2 : 8 < (m : Int)
                · have HR := Lib.hid (Hno.out (.inl (by rw [decide_eq_false (by omega)]; simp)))
                  clear Hno Hyes Hkin
                  go_wp2_with fail
                  refine Hname.out.mono ?_
                  rintro e w1 ⟨rfl, hw1⟩
                  subst hw1
                  go_wp2_with fail
                  refine (Hfind.out _ rfl).mono ?_
                  rintro e w2 ⟨rfl, hw2⟩
                  subst hw2
                  go_wp2_with fail
                  go_ret
                  exact ⟨by rw [HR.out]; rfl, rfl⟩
                · have hd : decide (1 ≤ m ∧ m ≤ 8) = true := decide_eq_true (by omega)
                  rw [hd, Bool.true_and, Bool.true_and] at Hno Hyes
                  clear hd
                  go_wp2_with fail
                  refine Hname.out.mono ?_
                  rintro e w1 ⟨rfl, hw1⟩
                  subst hw1
                  go_wp2_with fail
                  refine (Hfind.out _ rfl).mono ?_
                  rintro e w2 ⟨rfl, hw2⟩
                  subst hw2
                  go_wp2_with fail
                  clear Hfind Hname
                  go_loopw [4] (fun vk wq => ∃ k : Nat, vk = .int .i64 k ∧ k ≤ m ∧ Hid ((kn.take k).all kindT = true) ∧ Hid (wq = w2)) (fun vk _ => m - (intOf vk).toNat)
                  case atStart => exact ⟨0, rfl, by omega, rfl, rfl⟩
                  case round =>
                    obtain ⟨k, rfl, hk, Hka, Hw2⟩ := hrel
                    have hww := Hw2.out
                    subst hww
                    by_cases hkm : k < m
                    · have hkI : (k : Int) < (m : Int) := by omega
                      have hkI0 : (0 : Int) ≤ (k : Int) := by omega
                      have hkl : k < kn.length := by rw [Hm.out]; exact hkm
                      obtain ⟨b2, o2, hae, d0⟩ := Hkin.out.kind hkl
                      have Hkd := Lib.hid (rkind_any kn[k] wr)
                      have hs1 : kindT kn[k] = false → R = 230 := fun h => Hno.out (.inl (List.all_eq_false.2 ⟨_, List.getElem_mem hkl, by rw [h]; decide⟩))
                      have hs2 : kindT kn[k] = true → (kn.take (k + 1)).all kindT = true := fun h => by
                        rw [List.take_succ_eq_append_getElem hkl, List.all_append, Hka.out]
                        simp [h]
                      subst hae
                      have Hs1 := Lib.hid hs1
                      have Hs2 := Lib.hid hs2
                      clear hs1 hs2
                      generalize kn[k] = kd at *
                      clear Hno Hyes hkl
                      cases hkt : kindT kd with
                      | false =>
                        have HR := Lib.hid (Hs1.out hkt)
                        rw [hkt] at Hkd
                        clear Hs1 Hs2
                        go_wp2_with fail
                        refine Hkd.out.mono ?_
                        rintro e w3 ⟨rfl, hw3⟩
                        subst hw3
                        go_wp2_with fail
                        go_ret
                        exact ⟨by rw [HR.out]; rfl, rfl⟩
                      | true =>
                        have HY := Lib.hid (Hs2.out hkt)
                        rw [hkt] at Hkd
                        clear Hs1 Hs2
                        go_wp2_with fail
                        refine Hkd.out.mono ?_
                        rintro e w3 ⟨rfl, hw3⟩
                        subst hw3
                        go_wp2_with fail
                        go_roundw
                        case rel => exact ⟨k + 1, by go_num, by omega, HY, by first | exact rfl | exact trivial⟩
                        case measure => simp [intOf]; omega
                    · obtain rfl : k = m := by omega
                      have hka := Hka.out
                      rw [List.take_of_length_le (by rw [Hm.out]; exact Nat.le_refl _)] at hka
                      have HR := Lib.hid (Hyes.out hka hP)
                      have hkI : ¬ (k : Int) < (k : Int) := by omega
                      clear Hyes Hno hka
                      go_wp2_with fail
                      go_roundw
                      case rel => exact ⟨j + 1, by go_num, by omega, HR, by first | exact rfl | exact trivial⟩
                      case measure => simp [intOf]; omega
        · have HR := Lib.hid (hgood.out (by omega) (fun i hi => Hall.out i hi (by rw [Hl.out] at hi; omega)))
          have hjI : ¬ (j : Int) < (n : Int) := by omega
          go_wp2_with fail
          go_ret
          exact ⟨by rw [HR.out]; rfl, rfl⟩
end Go.Proofs.YtheafcfbahdcfaaDoor
