/- Walks: QueryTold. (Printed by gen_qzt.py.) -/
import Derived.Test.YtheafcfbahdcfaaQyE
import Derived.Test.YtheafcfbahdcfaaQyD
import Derived.Test.YtheafcfbahdcfaaQyZ
namespace Go.Proofs.Ytheafcfbahdcfaa
open Go.RowKit

attribute [local go_sem ↓] Go.wp_at_zero Go.wp_at_succ

set_option maxHeartbeats 32000000 in
set_option maxRecDepth 100000 in
theorem told_walk (l : List Th) (L : Option Addr) (n c : Nat) (q : Qy) (a1 : Option Addr) (n1 c1 : Nat) (a2 : Option Addr) (n2 c2 : Nat) (a3 : Option Addr) (n3 c3 : Nat) (a4 : Option Addr) (n4 c4 : Nat) (a5 : Option Addr) (n5 c5 : Nat) (a6 : Option Addr) (n6 c6 : Nat) (w : World) (hl : l.length = n) (hL : Tin w L l) (hq : Qi w q a1 n1 a2 n2 a3 n3 a4 n4 a5 n5 a6 n6) (hc3 : n3 ≤ c3 ∧ c3 ≤ maxLen) :
    Calls Try.prog 4 #[.slice L n c, .agg #[.string (St8 q.frm), .slice a1 n1 c1, .slice a2 n2 c2, .slice a3 n3 c3, .slice a4 n4 c4, .slice a5 n5 c5, .slice a6 n6 c6]] w fun e w' => e = .returned (.bool true) ∧ Below w.heap.size w w' := by
  have Hl := Lib.hid hl
  have HL := Lib.hid (fun w' (hw : Below w.heap.size w w') => hL.below hw)
  have Hfw := Lib.hid (fun w' (hw : Below w.heap.size w w') => qfew_any l L n c q a1 n1 c1 a2 n2 c2 a3 n3 c3 a4 n4 c4 a5 n5 c5 a6 n6 c6 w' hl (hL.below hw).rd (hq.below hw))
  obtain ⟨lt, hlt⟩ : ∃ lt, lt = l.map Th.t := ⟨_, rfl⟩
  have Hck := Lib.hid (fun w' (hw : Below w.heap.size w w') (hf : FewT lt ∧ q.Few) => qcheck_any l L n c q a1 n1 c1 a2 n2 c2 a3 n3 c3 a4 n4 c4 a5 n5 c5 a6 n6 c6 w' hl (hL.below hw) (by rw [← hlt]; exact hf.1) (hq.below hw) hf.2 hc3)
  have Hne := Lib.hid (fun w' (hw : Below w.heap.size w w') (hf : FewT lt ∧ q.Few) => needs_any l L n c q a1 n1 c1 a2 n2 c2 a3 n3 c3 a4 n4 c4 a5 n5 c5 a6 n6 c6 w' hl (hL.below hw) (by rw [← hlt]; exact hf.1) (hq.below hw) hf.2 hc3)
  have Hjd := Lib.hid (fun w' (hw : Below w.heap.size w w') (hf : FewT lt ∧ q.Few) => joined_any l L n c q a1 n1 c1 a2 n2 c2 a3 n3 c3 a4 n4 c4 a5 n5 c5 a6 n6 c6 w' hl (hL.below hw) (by rw [← hlt]; exact hf.1) (hq.below hw) hf.2)
  rw [← hlt] at Hfw Hck Hne Hjd
  have Hlt := Lib.hid hlt
  obtain ⟨C, hC⟩ : ∃ C, C = checkM lt q := ⟨_, rfl⟩
  obtain ⟨R, hR⟩ : ∃ R, R = needsM lt q := ⟨_, rfl⟩
  obtain ⟨P, hP⟩ : ∃ P, P = joinedP lt q := ⟨_, rfl⟩
  obtain ⟨E, hE⟩ : ∃ E, E = joinedE lt q := ⟨_, rfl⟩
  rw [← hC] at Hck
  rw [← hR] at Hne
  rw [← hP, ← hE] at Hjd
  have HRn : Hid (¬ C.2 = 0 → C.1 = [] ∧ R = ([], C.2)) := Lib.hid fun h => by
    rw [hC] at h ⊢
    exact ⟨checkM_no h, by rw [hR]; exact needs_no h⟩
  have HRy : Hid (C.2 = 0 → E = 0 ∧ (1 ≤ C.1.length ∧ C.1.length ≤ 8 ∧ ∀ x ∈ C.1, kindT x = true) ∧ R.2 = 0 ∧ R.1.length = n1 + 1 ∧ P.length = n1 + 1 ∧ (∀ k ∈ P, k < l.length) ∧
      ∀ i (hi : i < P.length), ∃ s, R.1[i]? = some s ∧ s ≠ [] ∧ (∀ c ∈ s, 0 ≤ c ∧ c < ((tabK lt P[i]).length : Int)) ∧ s.Pairwise (· < ·)) := Lib.hid fun h => by
    rw [hC] at h ⊢
    obtain ⟨h1, h2⟩ := check_ok h
    obtain ⟨h3, h4⟩ := needs_len h
    subst hP
    refine ⟨by rw [hE]; exact h1, h2, by rw [hR, needs_yes h], by rw [hR, h3, hq.l1], by rw [h4, hq.l1], fun k hk => ?_, fun i hi => ?_⟩
    · have := joinedP_lt hk
      rwa [hlt, List.length_map] at this
    · rw [hR]
      exact needs_ok h i hi
  have Hsm : Hid (FewT lt → ∀ s ∈ R.1, s.length ≤ 12) := Lib.hid fun h => by
    rw [hR]
    exact needs_small h
  obtain ⟨wb, hwb⟩ : ∃ x, x = w.alloc (.cells #[.string (St8 q.frm), .slice a1 n1 c1, .slice a2 n2 c2, .slice a3 n3 c3, .slice a4 n4 c4, .slice a5 n5 c5, .slice a6 n6 c6] 29) := ⟨_, rfl⟩
  have Hbb : Hid (Below w.heap.size w wb) := by
    show Below _ _ _
    rw [hwb]
    exact (Below.refl _ _).alloc (Nat.le_refl _) _
  have hbx : Blk wb w.heap.size 29 (#[.string (St8 q.frm), .slice a1 n1 c1, .slice a2 n2 c2, .slice a3 n3 c3, .slice a4 n4 c4, .slice a5 n5 c5, .slice a6 n6 c6]).toList := by
    rw [hwb]
    exact Blk.new w _ _
  have Hce := Lib.hid (fun w' (hw : Below wb.heap.size wb w') => (⟨(hbx.below hw).cell 0, (hbx.below hw).cell 1, (hbx.below hw).cell 2, (hbx.below hw).cell 3, (hbx.below hw).cell 4, (hbx.below hw).cell 5, (hbx.below hw).cell 6⟩ : w'.cell? ⟨w.heap.size, 0, none⟩ = some (.string (St8 q.frm)) ∧ w'.cell? ⟨w.heap.size, 1, none⟩ = some (.slice a1 n1 c1) ∧ w'.cell? ⟨w.heap.size, 2, none⟩ = some (.slice a2 n2 c2) ∧ w'.cell? ⟨w.heap.size, 3, none⟩ = some (.slice a3 n3 c3) ∧ w'.cell? ⟨w.heap.size, 4, none⟩ = some (.slice a4 n4 c4) ∧ w'.cell? ⟨w.heap.size, 5, none⟩ = some (.slice a5 n5 c5) ∧ w'.cell? ⟨w.heap.size, 6, none⟩ = some (.slice a6 n6 c6)))
  have Hsh := Lib.hid (qshown_any wb)
  have Hn1 := Lib.hid (fun (h : q.Few) => (by have := h.joins; rw [hq.l1] at this; exact this : n1 ≤ 12))
  clear hl hL hq hc3 hlt hC hR hP hE hbx
  go_enter Try.func4, Try.ntmps4
  go_wp2_with fail
  rw [← hwb]
  refine Hsh.out.mono ?_
  rintro e w1 ⟨rfl, hb1⟩
  have Hw1 := Lib.hid hb1
  have Hb1 := Lib.hid (Hbb.out.trans (hb1.mono Hbb.out.size))
  obtain ⟨k0, k1, k2, k3, k4, k5, k6⟩ := Hce.out w1 hb1
  clear hb1 hwb Hsh
  go_wp2_with fail
  refine (Hfw.out w1 Hb1.out).mono ?_
  rintro e w2 ⟨he, hb2⟩
  have Hw2 := Lib.hid (Hw1.out.trans (hb2.mono Hw1.out.size))
  have Hb2 := Lib.hid (Hb1.out.trans (hb2.mono Hb1.out.size))
  clear hb2 k0 k1 k2 k3 k4 k5 k6 Hfw
  rcases he with rfl | ⟨rfl, hf⟩
  · go_wp2_with fail
    go_ret
    exact ⟨rfl, Hb2.out⟩
  · have Hf := Lib.hid hf
    have hn1 := Hn1.out hf.2
    clear hf Hn1
    obtain ⟨k0, k1, k2, k3, k4, k5, k6⟩ := Hce.out w2 Hw2.out
    obtain ⟨cl, ce⟩ := C
    obtain ⟨rl, re⟩ := R
    dsimp only at Hck Hne HRn HRy Hsm
    obtain ⟨cn, hcn⟩ : ∃ m, m = cl.length := ⟨_, rfl⟩
    obtain ⟨rn, hrn⟩ : ∃ m, m = rl.length := ⟨_, rfl⟩
    rw [← hcn] at Hck
    rw [← hrn] at Hne
    have Hcn := Lib.hid hcn
    have Hrn := Lib.hid hrn
    clear hcn hrn
    go_wp2_with fail
    refine (Hck.out w2 Hb2.out Hf.out).mono ?_
    rintro e w3 ⟨⟨XA, xd, rfl, hoX⟩, hb3⟩
    have Hw3 := Lib.hid (Hw2.out.trans (hb3.mono Hw2.out.size))
    have Hb3 := Lib.hid (Hb2.out.trans (hb3.mono Hb2.out.size))
    have HrX := Lib.hid hoX.rd
    clear hb3 hoX k0 k1 k2 k3 k4 k5 k6 Hck
    obtain ⟨k0, k1, k2, k3, k4, k5, k6⟩ := Hce.out w3 Hw3.out
    go_wp2_with fail
    refine (Hne.out w3 Hb3.out Hf.out).mono ?_
    rintro e w4 ⟨⟨NA, hs, nd, rfl, hhs, hrN, hil⟩, hb4⟩
    have Hw4 := Lib.hid (Hw3.out.trans (hb4.mono Hw3.out.size))
    have Hb4 := Lib.hid (Hb3.out.trans (hb4.mono Hb3.out.size))
    have HrX4 := Lib.hid (HrX.out.below hb4)
    have HrN := Lib.hid hrN
    have Hil := Lib.hid hil
    clear hb4 hrN hil hhs k0 k1 k2 k3 k4 k5 k6 Hne HrX
    by_cases hce : ce = 0
    · obtain ⟨rfl, ⟨hx1, hx8, hxk⟩, hre, hrl, hpl, hpk, hnd⟩ := HRy.out hce
      subst hce
      subst hre
      have Hxk := Lib.hid hxk
      have Hrl : Hid (rl.length = rn) := Hrn.out.symm
      have Hpk := Lib.hid hpk
      have Hnd := Lib.hid hnd
      rw [← Hcn.out] at hx1 hx8
      have hx1I : ¬ (cn : Int) < 1 := by omega
      have hx8I : ¬ 8 < (cn : Int) := by omega
      obtain ⟨pn, hpn⟩ : ∃ pn, P.length = pn := ⟨_, rfl⟩
      have Hpl := Lib.hid hpn
      rw [hpn] at Hjd
      obtain rfl : rn = pn := by
        have := Hrn.out
        omega
      have hrn2 : rn = n1 + 1 := by omega
      have hN1 : IntKind.i64.wrap ((n1 : Int) + 1) = (rn : Int) := by rw [IntKind.wrap_i64]; omega
      have hN1b : wrap64 ((n1 : Int) + 1) = (rn : Int) := by unfold wrap64; omega
      have hne1 : ((rn : Int) != (rn : Int)) = false := by simp
      have hrn13 : rn ≤ 13 := by omega
      clear hrn2 hrl hpl hpk hnd hxk hpn HRn HRy
      obtain ⟨k0, k1, k2, k3, k4, k5, k6⟩ := Hce.out w4 Hw4.out
      go_wp2_with fail
      refine (Hjd.out w4 Hb4.out Hf.out).mono ?_
      rintro e w5 ⟨⟨PA, F, dp, df, rfl, hoP, -⟩, hb5⟩
      have Hw5 := Lib.hid (Hw4.out.trans (hb5.mono Hw4.out.size))
      have Hb5 := Lib.hid (Hb4.out.trans (hb5.mono Hb4.out.size))
      have HrX5 := Lib.hid (HrX4.out.below hb5)
      have HrN5 := Lib.hid (HrN.out.below hb5)
      have Hil5 := Lib.hid (Hil.out.below hb5)
      have HrP := Lib.hid hoP.rd
      clear hb5 hoP k0 k1 k2 k3 k4 k5 k6 Hjd HrX4 HrN Hil
      obtain ⟨k0, k1, k2, k3, k4, k5, k6⟩ := Hce.out w5 Hw5.out
      go_wp2_with fail
      go_loopw [103] (fun vi wr => ∃ j : Nat, vi = .int .i64 j ∧ j ≤ cn ∧ Hid (wr = w5)) (fun vi _ => cn - (intOf vi).toNat)
      case atStart => exact ⟨0, rfl, by omega, rfl⟩
      case round =>
        obtain ⟨j, rfl, hj, Hwr⟩ := hrel
        obtain rfl := Hwr.out.symm
        by_cases hjn : j < cn
        · have hjI : (j : Int) < (cn : Int) := by omega
          have hjI0 : (0 : Int) ≤ (j : Int) := by omega
          have hjl : j < cl.length := by rw [← Hcn.out]; exact hjn
          obtain ⟨b, o, hXe, c0⟩ := HrX5.out.kind hjl
          obtain ⟨g1, g3⟩ := of_decide_eq_true (show decide (1 ≤ cl[j] ∧ cl[j] ≤ 3) = true from Hxk.out _ (List.getElem_mem hjl))
          subst hXe
          generalize cl[j] = v at *
          have g1' : ¬ v < 1 := by omega
          have g3' : ¬ 3 < v := by omega
          clear hjl g1 g3
          go_wp2_with fail
          go_roundw
          case rel => exact ⟨j + 1, by go_num, by omega, trivial⟩
          case measure => simp [intOf]; omega
        · obtain rfl : j = cn := by omega
          clear k0 k1 k2 k3 k4 k5 k6
          go_wp2_with fail
          go_loopw [116] (fun vi wr' => ∃ i : Nat, vi = .int .i64 i ∧ i ≤ rn ∧ Hid (wr' = w5)) (fun vi _ => rn - (intOf vi).toNat)
          case atStart => exact ⟨0, rfl, by omega, rfl⟩
          case round =>
            obtain ⟨i, rfl, hi, Hwr2⟩ := hrel
            obtain rfl := Hwr2.out.symm
            by_cases hin : i < rn
            · have hiI : (i : Int) < (rn : Int) := by omega
              have hiI0 : (0 : Int) ≤ (i : Int) := by omega
              have hiP : i < P.length := by rw [Hpl.out]; exact hin
              obtain ⟨s, hs1, hs2, hs3, hs4⟩ := Hnd.out i hiP
              obtain ⟨SA, sd, he1, hrS⟩ := Hil5.out i s hs1
              obtain ⟨nb, no, hNe, hnr⟩ := HrN5.out (fun e => by rw [e] at he1; cases he1)
              have c0 := hnr i _ he1
              obtain ⟨pb, po, hPe, p0⟩ := HrP.out.nat (List.getElem?_eq_getElem hiP)
              have hKl := Hpk.out _ (List.getElem_mem hiP)
              subst hNe
              subst hPe
              generalize P[i] = K at *
              have hKn : K < n := by rw [← Hl.out]; exact hKl
              have hKI : (K : Int) < (n : Int) := by omega
              have hKI0 : (0 : Int) ≤ (K : Int) := by omega
              have hKI1 : ¬ (K : Int) < 0 := by omega
              have hKI2 : ¬ (n : Int) ≤ (K : Int) := by omega
              obtain ⟨lb, lo, hLe, -, t0⟩ := (HL.out _ Hb5.out).rd.table hKl
              have hte : (l[K]).t.kinds.length = (tabK lt K).length := by rw [Hlt.out, tabK_at hKl]
              rw [hte] at t0
              subst hLe
              generalize (l[K]).a = ka at *
              generalize (l[K]).c = kc at *
              generalize (tabK lt K).length = nk at *
              have hsl : 0 < s.length := List.length_pos_iff.2 hs2
              have hsb := Hsm.out Hf.out.1 s (List.mem_of_getElem? hs1)
              obtain ⟨sn, hsn⟩ : ∃ sn, s.length = sn := ⟨_, rfl⟩
              rw [hsn] at c0 hsl hsb
              have Hsn := Lib.hid hsn
              have HrS := Lib.hid hrS
              have Hs3 := Lib.hid hs3
              have Hs4 := Lib.hid hs4
              have hs0 : ((sn : Int) == 0) = false := by rw [beq_eq_false_iff_ne]; omega
              have hs0n : (sn == 0) = false := by rw [beq_eq_false_iff_ne]; omega
              clear hsn hrS hs1 hs2 hs3 hs4 he1 hnr hte hiP hKl
              go_wp2_with fail
              go_loopw [142] (fun vi wr' => ∃ k : Nat, vi = .int .i64 k ∧ k ≤ sn ∧ Hid (wr' = w5)) (fun vi _ => sn - (intOf vi).toNat)
              case atStart => exact ⟨0, rfl, by omega, rfl⟩
              case round =>
                obtain ⟨k, rfl, hk, Hwr3⟩ := hrel
                obtain rfl := Hwr3.out.symm
                by_cases hkn : k < sn
                · have hkI : (k : Int) < (sn : Int) := by omega
                  have hkI0 : (0 : Int) ≤ (k : Int) := by omega
                  have hks : k < s.length := by rw [Hsn.out]; exact hkn
                  obtain ⟨sb, so, hSe, s0⟩ := HrS.out.num hks
                  obtain ⟨g1, g2⟩ := Hs3.out _ (List.getElem_mem hks)
                  by_cases hk0 : k = 0
                  · subst hk0
                    subst hSe
                    rw [Nat.add_zero] at s0
                    generalize s[0] = v at *
                    have g1' : ¬ v < 0 := by omega
                    have g2' : ¬ (nk : Int) ≤ v := by omega
                    clear hks
                    go_wp2_with fail
                    go_roundw
                    case rel => exact ⟨1, by go_num, by omega, trivial⟩
                    case measure => simp [intOf]; omega
                  · have hk1 : k - 1 < s.length := by omega
                    obtain ⟨sb1, so1, hSe1, s1⟩ := HrS.out.num hk1
                    have hlt2 : s[k - 1] < s[k] := List.pairwise_iff_getElem.1 Hs4.out (k - 1) k hk1 hks (by omega)
                    subst hSe
                    obtain ⟨rfl, rfl⟩ : sb = sb1 ∧ so = so1 := by
                      have h9 := Option.some.inj hSe1
                      injection h9 with h91 h92
                      exact ⟨h91, h92⟩
                    generalize s[k - 1] = u at *
                    generalize s[k] = v at *
                    have g1' : ¬ v < 0 := by omega
                    have g2' : ¬ (nk : Int) ≤ v := by omega
                    have g4 : ¬ v ≤ u := by omega
                    have hkp : 0 < (k : Int) := by omega
                    obtain ⟨kk, hkk⟩ : ∃ kk, kk = k - 1 := ⟨_, rfl⟩
                    rw [← hkk] at s1
                    have hkw : IntKind.i64.wrap ((k : Int) - 1) = (kk : Int) := by rw [IntKind.wrap_i64]; omega
                    have hkw2 : wrap64 ((k : Int) - 1) = (kk : Int) := by unfold wrap64; omega
                    have hkk0 : (0 : Int) ≤ (kk : Int) := by omega
                    have hkk1 : (kk : Int) < (sn : Int) := by omega
                    clear hks hk1 hSe1 hlt2 g1 g2 hkk hk0
                    go_wp2_with fail
                    go_roundw
                    case rel => exact ⟨k + 1, by go_num, by omega, trivial⟩
                    case measure => simp [intOf]; omega
                · obtain rfl : k = sn := by omega
                  go_wp2_with fail
                  go_roundw
                  case rel => exact ⟨i + 1, by go_num, by omega, trivial⟩
                  case measure => simp [intOf]; omega
            · obtain rfl : i = rn := by omega
              go_wp2_with fail
              go_ret
              exact ⟨rfl, Hb5.out⟩
    · obtain ⟨rfl, hR⟩ := HRn.out hce
      obtain ⟨rfl, rfl⟩ : rl = [] ∧ re = ce := by
        injection hR with h1 h2
        exact ⟨h1, h2⟩
      have e1 : (re == 0) = false := by rw [beq_eq_false_iff_ne]; exact hce
      have e2 : (re != 0) = true := by simpa using hce
      obtain rfl : cn = 0 := Hcn.out
      obtain rfl : rn = 0 := Hrn.out
      clear HRn HRy hR
      go_wp2_with fail
      go_ret
      exact ⟨rfl, Hb4.out⟩
end Go.Proofs.Ytheafcfbahdcfaa
