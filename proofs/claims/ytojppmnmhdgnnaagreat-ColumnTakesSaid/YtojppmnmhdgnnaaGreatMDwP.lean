/- The walk of dict.Take: the words that bytes begin with. -/
import Derived.Test.YtojppmnmhdgnnaaGreatMDwO
namespace Go.Proofs.YtojppmnmhdgnnaaGreat
set_option linter.unusedVariables false
set_option linter.unusedSimpArgs false
open Go.RowKit

attribute [local go_sem ↓] Go.wp_at_zero Go.wp_at_succ

/-- How Take ends. -/
def TakeOK (b : List UInt8) (w : World) (e : Ending) (w' : World) : Prop :=
  ((takeM b = none ∧ e = .returned (.tuple #[.slice none 0 0, .slice none 0 0, .int .i64 6])) ∨ ∃ W r A c A2 c2, takeM b = some (W, r) ∧ e = .returned (.tuple #[.slice A W.length c, .slice A2 r.length c2, .int .i64 0]) ∧ Rd w' A (wcl W) ∧ Rd w' A2 (Bs r)) ∧ Below w.heap.size w w'
/-- The same, and what room the rest has. -/
def TakeOK2 (b : List UInt8) (w : World) (e : Ending) (w' : World) : Prop :=
  ((takeM b = none ∧ e = .returned (.tuple #[.slice none 0 0, .slice none 0 0, .int .i64 6])) ∨ ∃ W r A c A2 c2, takeM b = some (W, r) ∧ e = .returned (.tuple #[.slice A W.length c, .slice A2 r.length c2, .int .i64 0]) ∧ (r.length ≤ c2 ∧ c2 ≤ 9223372036854775807) ∧ Rd w' A (wcl W) ∧ Rd w' A2 (Bs r)) ∧ Below w.heap.size w w'

set_option maxHeartbeats 16000000 in
set_option maxRecDepth 100000 in
theorem dtake_any2 (b : List UInt8) (n c : Nat) (A : Option Addr) (w : World) (hl : b.length = n) (hr : Rd w A (Bs b)) (hn : n ≤ 500000) (hnc : n ≤ c) (hc : c ≤ 9223372036854775807) :
    Calls Tryz.prog 26 #[.slice A n c] w fun e w' => TakeOK2 b w e w' := by
  have hnw := Lib.hid (rdr_new b n c A w hl hr (by omega))
  have Hl := Lib.hid hl
  have Hr := Lib.hid hr
  have htm : Hid (takeM b = match takeNum b with | none => none | some (m, u) => if 200 < m then none else match takeF m [] [] u with | none => none | some (w, r) => if rightW w = true then some (w, r) else none) := rfl
  clear hl hr
  go_enter Tryz.func26, Tryz.ntmps26
  go_wp2_with fail
  refine hnw.out.mono ?_
  rintro e w1 ⟨p, rfl, hrd1, hp1, hb1⟩
  have Hb1 := Lib.hid hb1
  have hpz := hrd1.lt
  have hnu := Lib.hid (rdr_num p b false w1 hrd1)
  clear hnw hb1 hrd1
  go_wp2_with fail
  refine hnu.out.mono ?_
  rintro e w2 ⟨⟨ht, rfl, hrd⟩ | ⟨m, u, ht, rfl, hrd⟩, hk⟩
  · have hf : Hid (takeM b = none) := by show _ = _; rw [htm.out, ht]
    have hb2 := Hb1.out.trans (keeps_below hk hp1 (Nat.le_of_lt hpz))
    have hbd := Lib.hid (rdr_bad p [] true w2 hrd.rdr)
    have Hb2 := Lib.hid hb2
    clear ht hrd hk hb2 htm hnu
    go_wp2_with fail
    go_loopw [6] (fun v6 wr => v6 = .int .u64 0 ∧ wr = w2) (fun _ _ => 0)
    case atStart => exact ⟨rfl, rfl⟩
    case round =>
      obtain ⟨rfl, rfl⟩ := hrel
      go_wp2_with fail
      refine hbd.out.mono ?_
      rintro e w3 ⟨rfl, rfl⟩
      go_wp2_with fail
      go_ret3
      exact ⟨.inl ⟨hf.out, rfl⟩, Hb2.out⟩
  · have hm64 := (takeNum_lt ht).1
    have hb2 := Hb1.out.trans (keeps_below hk hp1 (Nat.le_of_lt hpz))
    have Hb2 := Lib.hid hb2
    by_cases hm2 : 200 < m
    · have hf : Hid (takeM b = none) := by show _ = _; rw [htm.out, ht]; dsimp only; rw [if_pos hm2]
      have hbd := Lib.hid (rdr_bad p u false w2 hrd)
      have hmI : ¬ (m : Int) ≤ 200 := by omega
      have hmP : (0 : Int) < (m : Int) := by omega
      have hdm : decide ((m : Int) ≤ 200) = false := decide_eq_false (by omega)
      have hdn : decide (m ≤ 200) = false := decide_eq_false (by omega)
      clear ht hrd hk hb2 htm hnu
      go_wp2_with fail
      go_loopw [6] (fun v6 wr => v6 = .int .u64 (m : Int) ∧ wr = w2) (fun _ _ => 0)
      case atStart => exact ⟨rfl, rfl⟩
      case round =>
        obtain ⟨rfl, rfl⟩ := hrel
        go_wp2_with fail
        refine hbd.out.mono ?_
        rintro e w3 ⟨rfl, rfl⟩
        go_wp2_with fail
        go_ret3
        exact ⟨.inl ⟨hf.out, rfl⟩, Hb2.out⟩
    · have htm2 : Hid (takeM b = match takeF m [] [] u with | none => none | some (w, r) => if rightW w = true then some (w, r) else none) := by show _ = _; rw [htm.out, ht]; dsimp only; rw [if_neg hm2]
      have Hrd2 := Lib.hid hrd
      have hm3 : m ≤ 200 := by omega
      clear ht hrd hk hb2 htm hnu hm2 hm64
      go_wp2_with fail
      go_loopw [6, 7, 8] (fun v6 v7 v8 wr => ∃ (k kk cc : Nat) (A' : Option Addr) (lst : List UInt8) (a : List (List UInt8)) (pc : List UInt8) (bad : Bool), v6 = .int .u64 (k : Int) ∧ v7 = .slice A' kk cc ∧ v8 = .string (St8 lst) ∧ kk + k ≤ 200 ∧ lst.length ≤ (200 - k) * 1024 ∧ Hid (Rdr wr p pc bad) ∧ Hid (Own wr w.heap.size 9 1 A' kk cc (wcl a)) ∧ Hid (Below w.heap.size w wr) ∧ Hid (bad = true → takeM b = none) ∧ Hid (bad = false → takeF m [] [] u = takeF k lst a pc)) (fun v6 _ _ _ => (intOf v6).toNat)
      case atStart => exact ⟨m, 0, 0, none, [], [], u, false, rfl, rfl, rfl, by omega, by simp, Hrd2, Own.nil _ _ _ _, Hb2, fun h => absurd h (by decide), fun _ => rfl⟩
      case round =>
        obtain ⟨k, kk, cc, A', lst, a, pc, bad, rfl, rfl, rfl, hkk, hll, Hrd, Ho, Hb, Hbt, Hbf⟩ := hrel
        have hbd := Lib.hid (rdr_bad p pc bad wr Hrd.out)
        have hkl : Hid (a.length = kk) := by
          show _ = _
          have := Ho.out.1
          rw [wcl_len, Nat.mul_one] at this
          exact this
        by_cases hk0 : 0 < k
        · have hkI : (0 : Int) < (k : Int) := by omega
          have hk2 : (k : Int) ≤ 200 := by omega
          cases bad
          · have hnu := Lib.hid (rdr_num p pc false wr Hrd.out)
            have hpr := Hrd.out.lt
            obtain ⟨L, hL⟩ : ∃ L, lst.length = L := ⟨_, rfl⟩
            have hsz := St8_size lst
            rw [hL] at hsz
            have hwL : IntKind.u64.wrap (L : Int) = (L : Int) := by rw [IntKind.wrap_u64]; omega
            have hL2 : L ≤ (200 - k) * 1024 := by rw [← hL]; exact hll
            have Htf : Hid (takeM b = match (match takeNum pc with | none => none | some (n', v) => match takeText v with | none => none | some (s, z) => if lst.length < n' then none else if comM lst (lst.take n' ++ s) = n' then takeF (k - 1) (lst.take n' ++ s) (a ++ [lst.take n' ++ s]) z else none) with | none => none | some (w, r) => if rightW w = true then some (w, r) else none) := by
              show _ = _
              rw [htm2.out, Hbf.out rfl]
              obtain ⟨k', rfl⟩ : ∃ k', k = k' + 1 := ⟨k - 1, by omega⟩
              rfl
            have Htf2 : Hid (takeF m [] [] u = match takeNum pc with | none => none | some (n', v) => match takeText v with | none => none | some (s, z) => if lst.length < n' then none else if comM lst (lst.take n' ++ s) = n' then takeF (k - 1) (lst.take n' ++ s) (a ++ [lst.take n' ++ s]) z else none) := by
              show _ = _
              rw [Hbf.out rfl]
              obtain ⟨k', rfl⟩ : ∃ k', k = k' + 1 := ⟨k - 1, by omega⟩
              rfl
            rw [hL] at Htf Htf2
            clear Hbt Hbf Hrd hL
            go_wp2_with fail
            refine hbd.out.mono ?_
            rintro e w3 ⟨rfl, rfl⟩
            go_wp2_with fail
            refine hnu.out.mono ?_
            rintro e w4 ⟨⟨ht4, he4, hrd4⟩ | ⟨n', v, ht4, rfl, hrd4⟩, hk4⟩
            · obtain ⟨n', rfl⟩ : ∃ n' : Nat, e = .returned (.int .u64 (n' : Int)) := ⟨0, he4⟩
              clear he4
              have Ho4 := Lib.hid (Own.keeps Ho.out (by decide) hk4)
              have Hb4 := Lib.hid (Hb.out.trans (keeps_below hk4 hp1 (Nat.le_of_lt hpr)))
              have Hn4 : Hid (takeM b = none) := by show _ = _; rw [Htf.out, ht4]
              have hte := Lib.hid (rdr_text p [] true w4 hrd4.rdr)
              have hp4 := hrd4.rdr.lt
              clear hnu hbd Ho Hb ht4 hrd4 hk4 Htf Htf2
              go_wp2_with fail
              refine hte.out.mono ?_
              rintro e w5 ⟨⟨ht5, rfl, hrd5⟩ | ⟨s, z, ht5, rfl, hrd5⟩, hk5⟩
              · have Ho5 := Lib.hid (Own.keeps Ho4.out (by decide) hk5)
                have Hb5 := Lib.hid (Hb4.out.trans (keeps_below hk5 hp1 (Nat.le_of_lt hp4)))
                have Hrd5 : Hid (Rdr w5 p [] true) := hrd5.rdr
                have Hf1 : Hid (L < n' → takeM b = none) := fun _ => Hn4.out
                have Hf2 : Hid (¬ L < n' → ¬ comM lst (lst.take n' ++ []) = n' → takeM b = none) := fun _ _ => Hn4.out
                have Hf3 : Hid (¬ L < n' → comM lst (lst.take n' ++ []) = n' → (true = true → takeM b = none) ∧ (true = false → takeF m [] [] u = takeF (k - 1) (lst.take n' ++ []) (a ++ [lst.take n' ++ []]) [])) := fun _ _ => ⟨fun _ => Hn4.out, fun h => by cases h⟩
                have hS : ([] : List UInt8).length ≤ 1024 := by simp
                clear hte Ho4 Hb4 ht5 hrd5 hk5
                by_cases hLn : L < n'
                · have hf := Lib.hid (Hf1.out hLn)
                  have hLI : (L : Int) < (n' : Int) := by omega
                  go_wp2_with fail
                  go_ret3
                  exact ⟨.inl ⟨hf.out, rfl⟩, Hb5.out⟩
                · have hLI : ¬ (L : Int) < (n' : Int) := by omega
                  have hnL : (n' : Int) ≤ (L : Int) := by omega
                  have hn0 : (0 : Int) ≤ (n' : Int) := by omega
                  have hex := St8_take lst n'
                  have happ := St8_append (lst.take n') []
                  have hwl : (lst.take n' ++ []).length ≤ (200 - k + 1) * 1024 := by
                    rw [List.length_append, List.length_take]
                    omega
                  have hwi : IntKind.i64.wrap (n' : Int) = (n' : Int) := by rw [IntKind.wrap_i64]; omega
                  have hco := Lib.hid (fun w' => dcommon_any lst (lst.take n' ++ []) w' (by omega) (by omega))
                  have Hf2' := Lib.hid (Hf2.out hLn)
                  have Hf3' := Lib.hid (Hf3.out hLn)
                  generalize hwd : lst.take n' ++ [] = wd at *
                  have hsz2 : (St8 (lst.take n')).size ≤ 1000000 := by
                    rw [St8_size, List.length_take]
                    omega
                  have hsz3 : (St8 []).size ≤ 1000000 := by
                    rw [St8_size]
                    omega
                  generalize lst.take n' = tk at *
                  have hadd := fun w' => run_string_add_sum (P := Tryz.prog) (w := w') (St8 tk) (St8 []) (by omega)
                  rw [happ] at hadd
                  clear happ
                  generalize hcm : comM lst wd = cm at *
                  clear hwd hcm Hf1 Hf2 Hf3
                  by_cases hcn : cm = n'
                  · obtain ⟨Hg1, Hg2⟩ := Hf3'.out hcn
                    have hne : ((cm : Int) != (n' : Int)) = false := by rw [hcn]; simp
                    have HG1 := Lib.hid Hg1
                    have HG2 := Lib.hid Hg2
                    clear hcn Hf2' Hf3' Hg1 Hg2
                    go_wp2_with fail
                    refine (hco.out _).mono ?_
                    rintro e w6 ⟨rfl, q6, rfl⟩
                    have Hrd6 : Hid (Rdr (w5.drewN q6) p [] true) := Hrd5.out.drewN q6
                    have Ho6 : Hid (Own (w5.drewN q6) w.heap.size 9 1 A' kk cc (wcl a)) := Ho5.out
                    have Hb6 : Hid (Below w.heap.size w (w5.drewN q6)) := below_drewN' Hb5.out q6
                    clear hco Hrd5 Ho5 Hb5
                    generalize w5.drewN q6 = w6 at *
                    have hbW : Below w6.heap.size w6 (w6.alloc (.cells #[.string (St8 wd)] 9)) := (Below.refl _ _).alloc (Nat.le_refl _) _
                    have hnew := (Blk.new w6 9 #[.string (St8 wd)]).range
                    have ho7 := Own.below Ho6.out hbW
                    have hr7 := Hrd6.out.below hbW
                    have hb7 := Hb6.out.trans (hbW.mono Hb6.out.size)
                    have hz7 := hb7.size
                    clear hbW Ho6 Hrd6 Hb6
                    go_wp2_with (first | (at_builtin; refine hold ?_) | (at_make; refine hold ?_))
                    (with_reducible refine unhold ?_)
                    refine wpList_apd rfl _ _ _ rfl Estr w.heap.size _ kk _ (wcl a) rfl ho7 _ 1 _ [.string (St8 wd)] rfl rfl (fun _ => ⟨_, _, rfl, hnew⟩) (by simp [Value.oneCell']) (kk + 1) rfl _ rfl (by omega) (by omega) hz7 ?_
                    intro A8 c8 w8 ho8 hg8 _
                    have e8 : wcl a ++ [.string (St8 wd)] = wcl (a ++ [wd]) := by rw [wcl_append]; rfl
                    rw [e8] at ho8
                    have Hrd8 : Hid (Rdr w8 p [] true) := hr7.keeps (by decide) (by decide) (ho7.apd_keeps hg8)
                    have Ho8 := Lib.hid ho8
                    have Hb8 := Lib.hid (hb7.grown hg8 hz7 ho7.row_ge)
                    clear ho8 hg8 ho7 hr7 hb7 hnew e8
                    go_wp2_with fail
                    go_roundw
                    case rel => exact ⟨k - 1, kk + 1, c8, A8, wd, a ++ [wd], [], true, by go_num, rfl, rfl, by omega, by omega, Hrd8, Ho8, Hb8, fun h => HG1.out (by first | trivial | exact h | cases h), fun h => HG2.out (by first | trivial | exact h | cases h)⟩
                    case measure => simp only [intOf, Int.toNat_natCast]; omega
                  · have hf := Lib.hid (Hf2'.out hcn)
                    have hne : ((cm : Int) != (n' : Int)) = true := by rw [bne_iff_ne]; omega
                    clear hcn Hf2' Hf3'
                    go_wp2_with fail
                    refine (hco.out _).mono ?_
                    rintro e w6 ⟨rfl, q6, rfl⟩
                    go_wp2_with fail
                    go_ret3
                    exact ⟨.inl ⟨hf.out, rfl⟩, below_drewN' Hb5.out q6⟩
              · rw [show takeText [] = none from rfl] at ht5
                cases ht5
            · have Ho4 := Lib.hid (Own.keeps Ho.out (by decide) hk4)
              have Hb4 := Lib.hid (Hb.out.trans (keeps_below hk4 hp1 (Nat.le_of_lt hpr)))
              have hn64 := (takeNum_lt ht4).1
              rw [ht4] at Htf Htf2
              dsimp only at Htf Htf2
              have hte := Lib.hid (rdr_text p v false w4 hrd4)
              have hp4 := hrd4.lt
              clear hnu hbd Ho Hb ht4 hrd4 hk4
              go_wp2_with fail
              refine hte.out.mono ?_
              rintro e w5 ⟨⟨ht5, rfl, hrd5⟩ | ⟨s, z, ht5, rfl, hrd5⟩, hk5⟩
              · have Ho5 := Lib.hid (Own.keeps Ho4.out (by decide) hk5)
                have Hb5 := Lib.hid (Hb4.out.trans (keeps_below hk5 hp1 (Nat.le_of_lt hp4)))
                have Hrd5 : Hid (Rdr w5 p [] true) := hrd5.rdr
                have Hn4 : Hid (takeM b = none) := by show _ = _; rw [Htf.out, ht5]
                have Hf1 : Hid (L < n' → takeM b = none) := fun _ => Hn4.out
                have Hf2 : Hid (¬ L < n' → ¬ comM lst (lst.take n' ++ []) = n' → takeM b = none) := fun _ _ => Hn4.out
                have Hf3 : Hid (¬ L < n' → comM lst (lst.take n' ++ []) = n' → (true = true → takeM b = none) ∧ (true = false → takeF m [] [] u = takeF (k - 1) (lst.take n' ++ []) (a ++ [lst.take n' ++ []]) [])) := fun _ _ => ⟨fun _ => Hn4.out, fun h => by cases h⟩
                have hS : ([] : List UInt8).length ≤ 1024 := by simp
                clear hte Ho4 Hb4 ht5 hrd5 hk5 Htf Htf2
                by_cases hLn : L < n'
                · have hf := Lib.hid (Hf1.out hLn)
                  have hLI : (L : Int) < (n' : Int) := by omega
                  go_wp2_with fail
                  go_ret3
                  exact ⟨.inl ⟨hf.out, rfl⟩, Hb5.out⟩
                · have hLI : ¬ (L : Int) < (n' : Int) := by omega
                  have hnL : (n' : Int) ≤ (L : Int) := by omega
                  have hn0 : (0 : Int) ≤ (n' : Int) := by omega
                  have hex := St8_take lst n'
                  have happ := St8_append (lst.take n') []
                  have hwl : (lst.take n' ++ []).length ≤ (200 - k + 1) * 1024 := by
                    rw [List.length_append, List.length_take]
                    omega
                  have hwi : IntKind.i64.wrap (n' : Int) = (n' : Int) := by rw [IntKind.wrap_i64]; omega
                  have hco := Lib.hid (fun w' => dcommon_any lst (lst.take n' ++ []) w' (by omega) (by omega))
                  have Hf2' := Lib.hid (Hf2.out hLn)
                  have Hf3' := Lib.hid (Hf3.out hLn)
                  generalize hwd : lst.take n' ++ [] = wd at *
                  have hsz2 : (St8 (lst.take n')).size ≤ 1000000 := by
                    rw [St8_size, List.length_take]
                    omega
                  have hsz3 : (St8 []).size ≤ 1000000 := by
                    rw [St8_size]
                    omega
                  generalize lst.take n' = tk at *
                  have hadd := fun w' => run_string_add_sum (P := Tryz.prog) (w := w') (St8 tk) (St8 []) (by omega)
                  rw [happ] at hadd
                  clear happ
                  generalize hcm : comM lst wd = cm at *
                  clear hwd hcm Hf1 Hf2 Hf3
                  by_cases hcn : cm = n'
                  · obtain ⟨Hg1, Hg2⟩ := Hf3'.out hcn
                    have hne : ((cm : Int) != (n' : Int)) = false := by rw [hcn]; simp
                    have HG1 := Lib.hid Hg1
                    have HG2 := Lib.hid Hg2
                    clear hcn Hf2' Hf3' Hg1 Hg2
                    go_wp2_with fail
                    refine (hco.out _).mono ?_
                    rintro e w6 ⟨rfl, q6, rfl⟩
                    have Hrd6 : Hid (Rdr (w5.drewN q6) p [] true) := Hrd5.out.drewN q6
                    have Ho6 : Hid (Own (w5.drewN q6) w.heap.size 9 1 A' kk cc (wcl a)) := Ho5.out
                    have Hb6 : Hid (Below w.heap.size w (w5.drewN q6)) := below_drewN' Hb5.out q6
                    clear hco Hrd5 Ho5 Hb5
                    generalize w5.drewN q6 = w6 at *
                    have hbW : Below w6.heap.size w6 (w6.alloc (.cells #[.string (St8 wd)] 9)) := (Below.refl _ _).alloc (Nat.le_refl _) _
                    have hnew := (Blk.new w6 9 #[.string (St8 wd)]).range
                    have ho7 := Own.below Ho6.out hbW
                    have hr7 := Hrd6.out.below hbW
                    have hb7 := Hb6.out.trans (hbW.mono Hb6.out.size)
                    have hz7 := hb7.size
                    clear hbW Ho6 Hrd6 Hb6
                    go_wp2_with (first | (at_builtin; refine hold ?_) | (at_make; refine hold ?_))
                    (with_reducible refine unhold ?_)
                    refine wpList_apd rfl _ _ _ rfl Estr w.heap.size _ kk _ (wcl a) rfl ho7 _ 1 _ [.string (St8 wd)] rfl rfl (fun _ => ⟨_, _, rfl, hnew⟩) (by simp [Value.oneCell']) (kk + 1) rfl _ rfl (by omega) (by omega) hz7 ?_
                    intro A8 c8 w8 ho8 hg8 _
                    have e8 : wcl a ++ [.string (St8 wd)] = wcl (a ++ [wd]) := by rw [wcl_append]; rfl
                    rw [e8] at ho8
                    have Hrd8 : Hid (Rdr w8 p [] true) := hr7.keeps (by decide) (by decide) (ho7.apd_keeps hg8)
                    have Ho8 := Lib.hid ho8
                    have Hb8 := Lib.hid (hb7.grown hg8 hz7 ho7.row_ge)
                    clear ho8 hg8 ho7 hr7 hb7 hnew e8
                    go_wp2_with fail
                    go_roundw
                    case rel => exact ⟨k - 1, kk + 1, c8, A8, wd, a ++ [wd], [], true, by go_num, rfl, rfl, by omega, by omega, Hrd8, Ho8, Hb8, fun h => HG1.out (by first | trivial | exact h | cases h), fun h => HG2.out (by first | trivial | exact h | cases h)⟩
                    case measure => simp only [intOf, Int.toNat_natCast]; omega
                  · have hf := Lib.hid (Hf2'.out hcn)
                    have hne : ((cm : Int) != (n' : Int)) = true := by rw [bne_iff_ne]; omega
                    clear hcn Hf2' Hf3'
                    go_wp2_with fail
                    refine (hco.out _).mono ?_
                    rintro e w6 ⟨rfl, q6, rfl⟩
                    go_wp2_with fail
                    go_ret3
                    exact ⟨.inl ⟨hf.out, rfl⟩, below_drewN' Hb5.out q6⟩
              · have Ho5 := Lib.hid (Own.keeps Ho4.out (by decide) hk5)
                have Hb5 := Lib.hid (Hb4.out.trans (keeps_below hk5 hp1 (Nat.le_of_lt hp4)))
                have Hrd5 : Hid (Rdr w5 p z false) := hrd5
                have hS : s.length ≤ 1024 := (takeText_suf ht5).1
                rw [ht5] at Htf Htf2
                dsimp only at Htf Htf2
                have Hf1 : Hid (L < n' → takeM b = none) := fun h => by rw [Htf.out, if_pos h]
                have Hf2 : Hid (¬ L < n' → ¬ comM lst (lst.take n' ++ s) = n' → takeM b = none) := fun h1 h2 => by rw [Htf.out, if_neg h1, if_neg h2]
                have Hf3 : Hid (¬ L < n' → comM lst (lst.take n' ++ s) = n' → (false = true → takeM b = none) ∧ (false = false → takeF m [] [] u = takeF (k - 1) (lst.take n' ++ s) (a ++ [lst.take n' ++ s]) z)) := fun h1 h2 => ⟨fun h => by (cases h), fun _ => by rw [Htf2.out, if_neg h1, if_pos h2]⟩
                clear hte Ho4 Hb4 ht5 hrd5 hk5 Htf Htf2
                by_cases hLn : L < n'
                · have hf := Lib.hid (Hf1.out hLn)
                  have hLI : (L : Int) < (n' : Int) := by omega
                  go_wp2_with fail
                  go_ret3
                  exact ⟨.inl ⟨hf.out, rfl⟩, Hb5.out⟩
                · have hLI : ¬ (L : Int) < (n' : Int) := by omega
                  have hnL : (n' : Int) ≤ (L : Int) := by omega
                  have hn0 : (0 : Int) ≤ (n' : Int) := by omega
                  have hex := St8_take lst n'
                  have happ := St8_append (lst.take n') s
                  have hwl : (lst.take n' ++ s).length ≤ (200 - k + 1) * 1024 := by
                    rw [List.length_append, List.length_take]
                    omega
                  have hwi : IntKind.i64.wrap (n' : Int) = (n' : Int) := by rw [IntKind.wrap_i64]; omega
                  have hco := Lib.hid (fun w' => dcommon_any lst (lst.take n' ++ s) w' (by omega) (by omega))
                  have Hf2' := Lib.hid (Hf2.out hLn)
                  have Hf3' := Lib.hid (Hf3.out hLn)
                  generalize hwd : lst.take n' ++ s = wd at *
                  have hsz2 : (St8 (lst.take n')).size ≤ 1000000 := by
                    rw [St8_size, List.length_take]
                    omega
                  have hsz3 : (St8 s).size ≤ 1000000 := by
                    rw [St8_size]
                    omega
                  generalize lst.take n' = tk at *
                  have hadd := fun w' => run_string_add_sum (P := Tryz.prog) (w := w') (St8 tk) (St8 s) (by omega)
                  rw [happ] at hadd
                  clear happ
                  generalize hcm : comM lst wd = cm at *
                  clear hwd hcm Hf1 Hf2 Hf3
                  by_cases hcn : cm = n'
                  · obtain ⟨Hg1, Hg2⟩ := Hf3'.out hcn
                    have hne : ((cm : Int) != (n' : Int)) = false := by rw [hcn]; simp
                    have HG1 := Lib.hid Hg1
                    have HG2 := Lib.hid Hg2
                    clear hcn Hf2' Hf3' Hg1 Hg2
                    go_wp2_with fail
                    refine (hco.out _).mono ?_
                    rintro e w6 ⟨rfl, q6, rfl⟩
                    have Hrd6 : Hid (Rdr (w5.drewN q6) p z false) := Hrd5.out.drewN q6
                    have Ho6 : Hid (Own (w5.drewN q6) w.heap.size 9 1 A' kk cc (wcl a)) := Ho5.out
                    have Hb6 : Hid (Below w.heap.size w (w5.drewN q6)) := below_drewN' Hb5.out q6
                    clear hco Hrd5 Ho5 Hb5
                    generalize w5.drewN q6 = w6 at *
                    have hbW : Below w6.heap.size w6 (w6.alloc (.cells #[.string (St8 wd)] 9)) := (Below.refl _ _).alloc (Nat.le_refl _) _
                    have hnew := (Blk.new w6 9 #[.string (St8 wd)]).range
                    have ho7 := Own.below Ho6.out hbW
                    have hr7 := Hrd6.out.below hbW
                    have hb7 := Hb6.out.trans (hbW.mono Hb6.out.size)
                    have hz7 := hb7.size
                    clear hbW Ho6 Hrd6 Hb6
                    go_wp2_with (first | (at_builtin; refine hold ?_) | (at_make; refine hold ?_))
                    (with_reducible refine unhold ?_)
                    refine wpList_apd rfl _ _ _ rfl Estr w.heap.size _ kk _ (wcl a) rfl ho7 _ 1 _ [.string (St8 wd)] rfl rfl (fun _ => ⟨_, _, rfl, hnew⟩) (by simp [Value.oneCell']) (kk + 1) rfl _ rfl (by omega) (by omega) hz7 ?_
                    intro A8 c8 w8 ho8 hg8 _
                    have e8 : wcl a ++ [.string (St8 wd)] = wcl (a ++ [wd]) := by rw [wcl_append]; rfl
                    rw [e8] at ho8
                    have Hrd8 : Hid (Rdr w8 p z false) := hr7.keeps (by decide) (by decide) (ho7.apd_keeps hg8)
                    have Ho8 := Lib.hid ho8
                    have Hb8 := Lib.hid (hb7.grown hg8 hz7 ho7.row_ge)
                    clear ho8 hg8 ho7 hr7 hb7 hnew e8
                    go_wp2_with fail
                    go_roundw
                    case rel => exact ⟨k - 1, kk + 1, c8, A8, wd, a ++ [wd], z, false, by go_num, rfl, rfl, by omega, by omega, Hrd8, Ho8, Hb8, fun h => HG1.out (by first | trivial | exact h | cases h), fun h => HG2.out (by first | trivial | exact h | cases h)⟩
                    case measure => simp only [intOf, Int.toNat_natCast]; omega
                  · have hf := Lib.hid (Hf2'.out hcn)
                    have hne : ((cm : Int) != (n' : Int)) = true := by rw [bne_iff_ne]; omega
                    clear hcn Hf2' Hf3'
                    go_wp2_with fail
                    refine (hco.out _).mono ?_
                    rintro e w6 ⟨rfl, q6, rfl⟩
                    go_wp2_with fail
                    go_ret3
                    exact ⟨.inl ⟨hf.out, rfl⟩, below_drewN' Hb5.out q6⟩
          · have hf := Lib.hid (Hbt.out rfl)
            clear Hbt Hbf
            go_wp2_with fail
            refine hbd.out.mono ?_
            rintro e w3 ⟨rfl, rfl⟩
            go_wp2_with fail
            refine hbd.out.mono ?_
            rintro e w3 ⟨rfl, rfl⟩
            go_wp2_with fail
            go_ret3
            exact ⟨.inl ⟨hf.out, rfl⟩, Hb.out⟩
        · have hkI : ¬ (0 : Int) < (k : Int) := by omega
          have hk9 : decide ((0 : Int) < (k : Int)) = false := decide_eq_false hkI
          have hk8 : decide (0 < k) = false := decide_eq_false hk0
          cases bad
          · have htz : Hid (takeM b = if rightW a = true then some (a, pc) else none) := by
              show _ = _
              obtain rfl : k = 0 := by omega
              rw [htm2.out, Hbf.out rfl]
              rfl
            have hri := Lib.hid (dright_any a kk cc A' wr hkl.out Ho.out.rd (by omega))
            have hlf := Lib.hid (fun q => rdr_left p pc false (wr.drewN q) (Hrd.out.drewN q))
            clear Hbt Hbf
            cases hR : rightW a
            · rw [hR] at hri htz
              have hf : Hid (takeM b = none) := htz.out
              clear hR
              go_wp2_with fail
              refine hbd.out.mono ?_
              rintro e w3 ⟨rfl, rfl⟩
              go_wp2_with fail
              refine hri.out.mono ?_
              rintro e w3 ⟨rfl, q, rfl⟩
              go_wp2_with fail
              go_ret3
              exact ⟨.inl ⟨hf.out, rfl⟩, below_drewN' Hb.out q⟩
            · rw [hR] at hri htz
              have hf : Hid (takeM b = some (a, pc)) := htz.out
              obtain ⟨Z, hZ⟩ : ∃ Z, pc.length = Z := ⟨_, rfl⟩
              have hput := (takeM_put hf.out).2
              have hZn : Z ≤ n := by
                rw [← hZ, ← Hl.out, hput, List.length_append]
                omega
              have hpcd : Hid (pc = b.drop (n - Z)) := by
                show _ = _
                have e1 : n - Z = (numB a.length ++ putF [] a).length := by
                  have := congrArg List.length hput
                  rw [Hl.out, List.length_append, hZ] at this
                  omega
                rw [e1, hput, List.drop_left]
              have hn0 : 0 < n := by
                rw [← Hl.out, hput]
                unfold numB
                split <;> simp
              obtain ⟨bb, oo, hA, hrg⟩ := Hr.out (by
                intro e
                have := congrArg List.length e
                rw [List.length_map, Hl.out, List.length_nil] at this
                omega)
              subst hA
              obtain ⟨D, hD, hDn, hDI⟩ : ∃ D, n - Z = D ∧ D ≤ n ∧ (n : Int) - (Z : Int) = (D : Int) := ⟨n - Z, rfl, by omega, by omega⟩
              rw [hD] at hpcd
              rw [hZ] at hlf
              have hrd9 : Hid (Rd w (some ⟨bb, oo + D, none⟩) (Bs pc)) := fun _ => ⟨bb, oo + D, rfl, by
                have := Rd.part hrg D (n - D)
                rw [List.take_of_length_le (by rw [List.length_drop, List.length_map, Hl.out]; exact Nat.le_refl _), ← List.map_drop, ← hpcd.out] at this
                exact this⟩
              have hZD : Hid (pc.length = n - D) := by show _ = _; rw [hZ]; omega
              have HZ : Hid (pc.length = Z) := hZ
              have hDcI : (D : Int) ≤ (n : Int) := by omega
              have hD0 : (0 : Int) ≤ (D : Int) := by omega
              clear hR hput hZ hrg hD
              by_cases hDc : D = c
              · obtain rfl : D = n := by omega
                obtain rfl : D = c := by omega
                have hpn : Hid (pc = []) := List.eq_nil_of_length_eq_zero (by rw [hZD.out]; omega)
                have hp0 : Hid (pc.length = 0) := by show _ = _; rw [hpn.out]; rfl
                clear hDc hnc hDn
                go_wp2_with fail
                refine hbd.out.mono ?_
                rintro e w3 ⟨rfl, rfl⟩
                go_wp2_with fail
                refine hri.out.mono ?_
                rintro e w3 ⟨rfl, q, rfl⟩
                go_wp2_with fail
                refine (hlf.out q).mono ?_
                rintro e w3 ⟨rfl, rfl⟩
                go_wp2_with fail
                refine (bclone_any2 pc 0 0 _ _ hp0.out (by rw [hpn.out]; exact Rd.nil _ _) (by omega) (fun e => by cases e)).mono ?_
                rintro e w4 ⟨A4, c4, rfl, hc4, hr4, hb4⟩
                go_wp2_with fail
                go_ret3
                have hbz := (below_drewN' Hb.out q).trans (hb4.mono (below_drewN' Hb.out q).size)
                refine ⟨.inr ⟨a, pc, A', cc, A4, c4, hf.out, ?_, by rw [hp0.out]; exact hc4, (Rd.drewN Ho.out.rd q).below hb4, hr4⟩, hbz⟩
                rw [hkl.out, hp0.out]
                rfl
              · go_wp2_with fail
                refine hbd.out.mono ?_
                rintro e w3 ⟨rfl, rfl⟩
                go_wp2_with fail
                refine hri.out.mono ?_
                rintro e w3 ⟨rfl, q, rfl⟩
                go_wp2_with fail
                refine (hlf.out q).mono ?_
                rintro e w3 ⟨rfl, rfl⟩
                go_wp2_with fail
                refine (bclone_any2 pc (n - D) _ _ _ hZD.out (hrd9.out.below (below_drewN' Hb.out q)) (by omega) (fun e => by cases e)).mono ?_
                rintro e w4 ⟨A4, c4, rfl, hc4, hr4, hb4⟩
                go_wp2_with fail
                go_ret3
                have hbz := (below_drewN' Hb.out q).trans (hb4.mono (below_drewN' Hb.out q).size)
                refine ⟨.inr ⟨a, pc, A', cc, A4, c4, hf.out, ?_, by rw [hZD.out]; exact hc4, (Rd.drewN Ho.out.rd q).below hb4, hr4⟩, hbz⟩
                rw [hkl.out, hZD.out]
                rfl
          · have hf := Lib.hid (Hbt.out rfl)
            clear Hbt Hbf
            go_wp2_with fail
            refine hbd.out.mono ?_
            rintro e w3 ⟨rfl, rfl⟩
            go_wp2_with fail
            go_ret3
            exact ⟨.inl ⟨hf.out, rfl⟩, Hb.out⟩
theorem dtake_any (b : List UInt8) (n c : Nat) (A : Option Addr) (w : World) (hl : b.length = n) (hr : Rd w A (Bs b)) (hn : n ≤ 500000) (hnc : n ≤ c) (hc : c ≤ 9223372036854775807) :
    Calls Tryz.prog 26 #[.slice A n c] w fun e w' => TakeOK b w e w' := by
  refine (dtake_any2 b n c A w hl hr hn hnc hc).mono ?_
  rintro e w' ⟨h | ⟨W, r, A', c', A2, c2, h1, h2, -, h3, h4⟩, hb⟩
  · exact ⟨.inl h, hb⟩
  · exact ⟨.inr ⟨W, r, A', c', A2, c2, h1, h2, h3, h4⟩, hb⟩
end Go.Proofs.YtojppmnmhdgnnaaGreat
