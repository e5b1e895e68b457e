/- The walk of SorterLeaves. -/
import Derived.Test.YtcadjekcdokkjaaGreatMJoSn
namespace Go.Proofs.YtcadjekcdokkjaaGreat
set_option linter.unusedVariables false
set_option linter.unusedSimpArgs false
open Go.RowKit
attribute [local go_sem ↓] Go.wp_at_zero Go.wp_at_succ
set_option maxHeartbeats 16000000 in
set_option maxRecDepth 100000 in
theorem leaves_walk (rs : List RowM) (hs : List Value) (n c : Nat) (A : Option Addr) (ks : List Ky) (kn kc : Nat) (KA : Option Addr) (fan : Int) (mo no ma ta : Nat) (w : World) (hn : rs.length = n) (hnc : n ≤ c) (hc : c ≤ 9223372036854775807) (hA : Rd w A hs) (hR : Rows w hs rs)
  (hkn : ks.length = kn) (hknc : kn ≤ kc) (hkc : kc ≤ 9223372036854775807) (hK : Rd w KA (kyc ks)) (hfan1 : -9223372036854775808 ≤ fan) (hfan2 : fan ≤ 9223372036854775807) (hmo : mo ≤ 65535) (hno : no ≤ 65535) (hma : ma ≤ 255) (hta : ta ≤ 255) :
  Calls Tryz.prog 6 #[.slice A n c, .slice KA kn kc, .int .i64 fan, .int .u16 (mo : Int), .int .u16 (no : Int), .int .u8 (ma : Int), .int .u8 (ta : Int)] w fun e w' => e = .returned (.bool true) ∧ Below w.heap.size w w' := by
 have Hn := Lib.hid hn
 have HA := Lib.hid hA
 have HR := Lib.hid hR
 have HK := Lib.hid (key_take hK (min kn 10))
 have Hkl := Lib.hid (show (ks.take (min kn 10)).length = min kn 10 by rw [List.length_take]; omega)
 clear hn hA hR hK
 have hkm : min kn 10 ≤ 10 := Nat.min_le_right _ _
 generalize ks.take (min kn 10) = kk at *
 obtain ⟨M, hM⟩ : ∃ m, m = mo % 2001 := ⟨_, rfl⟩
 obtain ⟨C, hC⟩ : ∃ m, m = ma % 101 := ⟨_, rfl⟩
 obtain ⟨W, hW⟩ : ∃ m, m = no % (M + 1) := ⟨_, rfl⟩
 obtain ⟨U, hU⟩ : ∃ m, m = ta % (C + 1) := ⟨_, rfl⟩
 have e1 : (mo : Int).tmod 2001 = (M : Int) := by rw [Int.tmod_eq_emod_of_nonneg (by omega)]; omega
 have e2 : (ma : Int).tmod 101 = (C : Int) := by rw [Int.tmod_eq_emod_of_nonneg (by omega)]; omega
 have e3 : (no : Int).tmod ((M : Int) + 1) = (W : Int) := by
  rw [Int.tmod_eq_emod_of_nonneg (by omega), hW]
  exact (Int.natCast_emod no (M + 1)).symm
 have e4 : (ta : Int).tmod ((C : Int) + 1) = (U : Int) := by
  rw [Int.tmod_eq_emod_of_nonneg (by omega), hU]
  exact (Int.natCast_emod ta (C + 1)).symm
 have bM : M ≤ 2000 := by omega
 have bC : C ≤ 100 := by omega
 have bW : W ≤ M := by
  have := Nat.mod_lt no (show 0 < M + 1 by omega)
  omega
 have bU : U ≤ C := by
  have := Nat.mod_lt ta (show 0 < C + 1 by omega)
  omega
 have f1 : IntKind.i64.wrap (M : Int) = (M : Int) := by rw [IntKind.wrap_i64]; omega
 have f2 : IntKind.i64.wrap (C : Int) = (C : Int) := by rw [IntKind.wrap_i64]; omega
 have f3 : IntKind.i64.wrap (no : Int) = (no : Int) := by rw [IntKind.wrap_i64]; omega
 have f4 : IntKind.i64.wrap (ta : Int) = (ta : Int) := by rw [IntKind.wrap_i64]; omega
 have f5 : IntKind.i64.wrap ((M : Int) + 1) = (M : Int) + 1 := by rw [IntKind.wrap_i64]; omega
 have f6 : IntKind.i64.wrap ((C : Int) + 1) = (C : Int) + 1 := by rw [IntKind.wrap_i64]; omega
 have f7 : IntKind.i64.wrap (W : Int) = (W : Int) := by rw [IntKind.wrap_i64]; omega
 have f8 : IntKind.i64.wrap (U : Int) = (U : Int) := by rw [IntKind.wrap_i64]; omega
 have z1 : ¬ ((M : Int) + 1 = 0) := by omega
 have z2 : ¬ ((C : Int) + 1 = 0) := by omega
 clear hM hC hW hU
 go_enter Tryz.func6, Tryz.ntmps6
 go_wp2_with fail
 refine (shown18 w).mono ?_
 rintro e w0 ⟨rfl, hb0⟩
 have Hb0 := Lib.hid hb0
 clear hb0
 go_wp2_with fail
 refine (few18_any rs hs n c A w0 Hn.out hnc hc (HA.out.below Hb0.out) (HR.out.below Hb0.out)).mono ?_
 rintro e w1 ⟨⟨k, hk, hfew, rfl⟩, hb1⟩
 have hxl : (rs.take k).length = k := by rw [List.length_take, Hn.out]; omega
 have HX := Lib.hid (rdTake HA.out k)
 have HXR := Lib.hid (HR.out.take k)
 have hk60 : k ≤ 60 := by have := hfew.len; omega
 generalize rs.take k = xs at *
 generalize hs.take k = js at *
 have hkc2 : k ≤ c := by omega
 have Hfew := Lib.hid hfew
 have Hxl := Lib.hid hxl
 have Hb1 := Lib.hid (Hb0.out.trans (hb1.mono Hb0.out.size))
 have Hok := Lib.hid HXR.out.okAll
 clear hxl hb1 hfew Hb0 HA HR Hn
 go_wp2_with fail
 refine (some18_any kn kc KA w1 hknc hkc).mono ?_
 rintro e w2 ⟨rfl, hw2⟩
 obtain rfl := hw2
 obtain ⟨K0, hK0⟩ : ∃ m, m = min kn 10 := ⟨_, rfl⟩
 rw [← hK0] at Hkl hkm ⊢
 clear hK0
 go_wp2_with fail
 refine (pnew_any M w1 (by omega)).mono ?_
 rintro e w2 ⟨bp, rfl, hp2, hbp, hb2⟩
 have Hb2 := Lib.hid (Hb1.out.trans (hb2.mono Hb1.out.size))
 have Hp2 := Lib.hid hp2
 have hz1 := Hb1.out.size
 have hz2 := hb2.size
 clear hp2 hb2 Hb1
 go_wp2_with fail
 refine (new_yes C w2 (by omega)).mono ?_
 rintro e w3 ⟨bs, rfl, hs3, hb3⟩
 have Hs3 := Lib.hid (hs3.lower hz2)
 have Hp3 := Lib.hid (Hp2.out.below hb3)
 have Hb3 := Lib.hid (Hb2.out.trans (hb3.mono Hb2.out.size))
 have hz3 := hb3.size
 clear hs3 hb3 Hp2 Hb2
 go_wp2_with fail
 go_quiet (fail)
 have hb4 := drewB w3 nq
 have Hs4 := Lib.hid (Hs3.out.below hb4)
 have Hp4 := Lib.hid (Hp3.out.below hb4)
 have Hb4 := Lib.hid (Hb3.out.trans (hb4.mono Hb3.out.size))
 have hz4 := hb4.size
 clear hb4 Hs3 Hp3 Hb3
 generalize w3.drewN nq = w4 at *
 go_wp2_with fail
 refine (ptake_yes bp M M M W w4 Hp4.out bW (by omega) (by omega)).mono ?_
 rintro e w5 ⟨rfl, hp5, hT5⟩
 have Hs5 := Lib.hid (Hs4.out.turns1 hT5 Hp4.out (by decide))
 have Hp5 := Lib.hid hp5
 have Hb5 := Lib.hid (Hb4.out.trans (hT5.below0 (fun k hk => by omega) Hb4.out.size))
 have hz5 := hT5.size
 clear hp5 hT5 Hs4 Hp4 Hb4
 obtain ⟨L, hL⟩ : ∃ L, L = M - W := ⟨_, rfl⟩
 obtain ⟨Q, hQ⟩ : ∃ Q, Q = min M (M - W) := ⟨_, rfl⟩
 rw [← hQ, ← hL] at Hp5
 have hQm : Q ≤ M := by omega
 have hLm : L ≤ M := by omega
 have hLW : M - L = W := by omega
 clear hQ hL
 have hal := alloc_c w1.heap.size bs (List.replicate C none) (U : Int) w5 Hs5.out (by omega) (by omega) (by omega)
 obtain ⟨ha1, ha2, ha3, ha4⟩ := Pg.alloc_has bU
 rw [ha1] at hal
 have Hal := Lib.hid hal
 have Ha2 := Lib.hid ha2
 have Ha3 := Lib.hid ha3
 clear hal ha1 ha2 ha3 ha4
 generalize Pg.allocS (List.replicate C none) (U : Nat) = sA at *
 generalize Pg.allocL (List.replicate C none) (U : Nat) = NA at *
 go_wp2_with fail
 refine Hal.out.mono ?_
 rintro e w6 ⟨A6, c6, rfl, _, hs6, hk6⟩
 have Hs6 := Lib.hid hs6
 have Hp6 := Lib.hid (Blk.keeps Hp5.out (by decide) hk6)
 have Hb6 := Lib.hid (Hb5.out.trans ((hk6.below (by omega)).mono hz1))
 have hz6 := hk6.size
 clear hs6 hk6 Hal Hs5 Hp5 Hb5
 have Hp6 : Hid (Pu w6 bp M L Q) := Hp6
 by_cases hfan : fan < 2 ∨ 16 < fan
 ·have HuA : Hid (Pg.used sA = U) := by show _ = _; rw [Ha2.out.used, Ha3.out]
  have hsa := Lib.hid (sort_arg ⟨bs, 0, none⟩ ⟨bp, 0, none⟩ A k c KA K0 kc fan hfan w6)
  go_wp2_with fail
  refine hsa.out.mono ?_
  rintro e w7 ⟨rfl, hw7⟩
  obtain rfl := hw7
  clear hsa
  have hpn := pnow_any bp M L Q w6 Hp6.out hLm (by omega)
  rw [hLW] at hpn
  have Hpn := Lib.hid hpn
  clear hpn
  go_wp2_with fail
  refine Hpn.out.mono ?_
  rintro e v1 ⟨rfl, q1, rfl⟩
  have Hs11 := Lib.hid (Hs6.out.below (drewB w6 q1))
  have Hp11 := Lib.hid (Hp6.out.below (drewB w6 q1))
  have Hb11 := Lib.hid (Hb6.out.trans ((drewB w6 q1).mono Hb6.out.size))
  skip
  clear Hpn Hs6 Hp6 Hb6
  generalize w6.drewN q1 = v1 at *
  have hus := used_c w1.heap.size bs sA v1 Hs11.out
  rw [HuA.out] at hus
  have Hus := Lib.hid hus
  clear hus
  go_wp2_with fail
  refine Hus.out.mono ?_
  rintro e v2 ⟨rfl, hv2⟩
  obtain rfl := hv2
  have hpk := Lib.hid (ppeak_any bp M L Q v1 Hp11.out (by omega) (by omega))
  have hRl : ¬ ((M : Int) < ((M - Q : Nat) : Int)) := by omega
  go_wp2_with fail
  refine hpk.out.mono ?_
  rintro e v3 ⟨rfl, q3, rfl⟩
  have Hb13 := Lib.hid (Hb11.out.trans ((drewB v1 q3).mono Hb11.out.size))
  skip
  clear hpk Hs11 Hp11 Hb11 Hus
  generalize v1.drewN q3 = v3 at *
  by_cases hf2 : fan < 2
  ·go_wp2_with fail
   go_ret
   exact ⟨rfl, Hb13.out⟩
  ·have hf3 : 16 < fan := hfan.resolve_left hf2
   clear hfan
   go_wp2_with fail
   go_ret
   exact ⟨rfl, Hb13.out⟩
 ·obtain ⟨F, rfl⟩ : ∃ F : Nat, fan = F := ⟨fan.toNat, by omega⟩
  have bF : 2 ≤ F ∧ F ≤ 16 := by omega
  have hf2 : ¬ ((F : Int) < 2) := by omega
  have hf3 : ¬ ((16 : Int) < (F : Int)) := by omega
  have hby := Hfew.out.bytes Hok.out
  have hsrt := sort_s w6 w1.heap.size bs bp KA K0 kc M Q A k c js xs kk NA sA L F 6264 (by omega) (by omega) Hs6.out Hp6.out Ha2.out (came_arg HX.out HXR.out Hb6.out (by omega) (by omega)) Hxl.out (by omega) (key_arg HK.out Hb6.out (by omega) (by omega)) Hkl.out (by omega) bF.1 bF.2 hLm (by omega) hQm (by omega) (Hfew.out.fineR Hok.out fun r hr => (Hfew.out.row r hr).1) (by omega)
  have Hsrt := Lib.hid hsrt
  clear hsrt hfan
  go_wp2_with fail
  refine Hsrt.out.mono ?_
  rintro e w8 ⟨hend, least', hle', hdo⟩
  obtain ⟨A8, n8, c8, er, rfl, hcase⟩ := hend.parts
  have hb78 := hdo.belowM (M := w.heap.size) (by omega) (by omega) (by omega)
  obtain ⟨s8, hs8, hN8, _, _⟩ := hdo.st
  have Hu8 : Hid (Pg.used s8 = U) := by show _ = _; rw [hN8.used, Ha3.out]
  have Hb8 := Lib.hid (Hb6.out.trans hb78)
  have Hs8 := Lib.hid hs8
  have Hp8 := Lib.hid hdo.pu
  have Hc8 := Lib.hid hcase
  have hl8 : least' ≤ M := by omega
  clear hend hdo hb78 hs8 hN8 hcase Hsrt Hb6 Hp6 Hs6
  have hpn := pnow_any bp M L least' w8 Hp8.out hLm (by omega)
  rw [hLW] at hpn
  have Hpn := Lib.hid hpn
  clear hpn
  go_wp2_with fail
  refine Hpn.out.mono ?_
  rintro e v1 ⟨rfl, q1, rfl⟩
  have Hs11 := Lib.hid (Hs8.out.below (drewB w8 q1))
  have Hp11 := Lib.hid (Hp8.out.below (drewB w8 q1))
  have Hb11 := Lib.hid (Hb8.out.trans ((drewB w8 q1).mono Hb8.out.size))
  have Hc11 := Lib.hid (hc_below Hc8.out (drewB w8 q1))
  clear Hpn Hs8 Hp8 Hb8
  generalize w8.drewN q1 = v1 at *
  have hus := used_c w1.heap.size bs s8 v1 Hs11.out
  rw [Hu8.out] at hus
  have Hus := Lib.hid hus
  clear hus
  go_wp2_with fail
  refine Hus.out.mono ?_
  rintro e v2 ⟨rfl, hv2⟩
  obtain rfl := hv2
  have hpk := Lib.hid (ppeak_any bp M L least' v1 Hp11.out (by omega) (by omega))
  have hRl : ¬ ((M : Int) < ((M - least' : Nat) : Int)) := by omega
  go_wp2_with fail
  refine hpk.out.mono ?_
  rintro e v3 ⟨rfl, q3, rfl⟩
  have Hb13 := Lib.hid (Hb11.out.trans ((drewB v1 q3).mono Hb11.out.size))
  have Hc13 := Lib.hid (hc_below Hc11.out (drewB v1 q3))
  clear Hc8 Hc11
  clear hpk Hs11 Hp11 Hb11 Hus
  generalize v1.drewN q3 = v3 at *
  have eLW : IntKind.i64.wrap ((M : Int) - (W : Int)) = (L : Int) := by rw [IntKind.wrap_i64]; omega
  have hru := Lib.hid (rruns_any xs js k c A L v3 Hxl.out (HX.out.below Hb13.out) (HXR.out.below Hb13.out) (by omega) (by omega) (fun r hr => by have := Hfew.out.row r hr; omega))
  go_wp2_with fail
  refine hru.out.mono ?_
  rintro e v4 ⟨rfl, hb14⟩
  have Hb14 := Lib.hid (Hb13.out.trans (hb14.mono Hb13.out.size))
  have Hc14 := Lib.hid (hc_below Hc13.out hb14)
  clear hru hb14 Hb13 Hc13
  rcases Hc14.out with ⟨rfl, hT, k2, hk2⟩ | ⟨her, rfl, rfl, hk2⟩
  ·rw [(runsK_some hk2).1, (runsK_some hk2).2]
   have HT := Lib.hid hT
   have hrs := Lib.hid (rsort_any xs js k c A KA K0 kc kk v4 Hxl.out (HX.out.below Hb14.out) (HXR.out.below Hb14.out) (by omega) Hkl.out (HK.out.below Hb14.out) (by omega))
   clear hT hk2 Hc14
   by_cases hk22 : k2 < 2
   ·have hkI : (k2 : Int) < 2 := by omega
    go_wp2_with fail
    refine hrs.out.mono ?_
    rintro e w9 ⟨A9, n9, c9, h9, rfl, hl9, hr9, hR9, hb9⟩
    obtain ⟨hTl, hh8, hT1, hT2⟩ := (HT.out.below hb9).rows
    have hlen : ∀ r ∈ sortR kk xs, r.length ≤ 140737488355328 := fun r hr => by
     have := (Hfew.out.row r ((sort_perm kk xs).mem_iff.1 hr)).2
     omega
    have hn9 : n9 = n8 := by rw [← hl9, hTl]
    subst hn9
    have hn8k : n9 = k := by rw [← hl9, sort_length, Hxl.out]
    have hsame := samerows_any (sortR kk xs) (sortR kk xs) hh8 h9 n9 n9 A8 A9 c8 c9 w9 hTl hl9 hT1 hr9 hT2 hR9 (by omega) (by omega) hlen hlen
    rw [decide_eq_true rfl] at hsame
    have Hsame := Lib.hid hsame
    have Hb9 := Lib.hid (Hb14.out.trans (hb9.mono Hb14.out.size))
    clear hTl hT1 hT2 hlen hl9 hr9 hR9 hsame hb9 hrs HT Hb14 hn8k
    go_wp2_with fail
    refine Hsame.out.mono ?_
    rintro e v5 ⟨rfl, q5, rfl⟩
    have Hfin := Lib.hid (Hb9.out.trans ((drewB w9 q5).mono Hb9.out.size))
    clear Hsame
    go_wp2_with fail
    go_ret
    exact ⟨rfl, Hfin.out⟩
   ·have hkI : ¬ ((k2 : Int) < 2) := by omega
    go_wp2_with fail
    refine hrs.out.mono ?_
    rintro e w9 ⟨A9, n9, c9, h9, rfl, hl9, hr9, hR9, hb9⟩
    obtain ⟨hTl, hh8, hT1, hT2⟩ := (HT.out.below hb9).rows
    have hlen : ∀ r ∈ sortR kk xs, r.length ≤ 140737488355328 := fun r hr => by
     have := (Hfew.out.row r ((sort_perm kk xs).mem_iff.1 hr)).2
     omega
    have hn9 : n9 = n8 := by rw [← hl9, hTl]
    subst hn9
    have hn8k : n9 = k := by rw [← hl9, sort_length, Hxl.out]
    have hsame := samerows_any (sortR kk xs) (sortR kk xs) hh8 h9 n9 n9 A8 A9 c8 c9 w9 hTl hl9 hT1 hr9 hT2 hR9 (by omega) (by omega) hlen hlen
    rw [decide_eq_true rfl] at hsame
    have Hsame := Lib.hid hsame
    have Hb9 := Lib.hid (Hb14.out.trans (hb9.mono Hb14.out.size))
    clear hTl hT1 hT2 hlen hl9 hr9 hR9 hsame hb9 hrs HT Hb14 hn8k
    go_wp2_with fail
    refine Hsame.out.mono ?_
    rintro e v5 ⟨rfl, q5, rfl⟩
    have Hfin := Lib.hid (Hb9.out.trans ((drewB w9 q5).mono Hb9.out.size))
    clear Hsame
    go_wp2_with fail
    go_ret
    exact ⟨rfl, Hfin.out⟩
  ·cases hrn : runsN L xs with
   | none =>
    rw [(runsK_none hrn).1, (runsK_none hrn).2]
    clear hrn hk2 Hc14
    rcases her with rfl | rfl
    ·go_wp2_with fail
     go_ret
     exact ⟨rfl, Hb14.out⟩
    ·go_wp2_with fail
     go_ret
     exact ⟨rfl, Hb14.out⟩
   | some k2 =>
    rw [(runsK_some hrn).1, (runsK_some hrn).2]
    have hk22 := hk2 k2 hrn
    have hkI : ¬ ((k2 : Int) < 2) := by omega
    clear hrn hk2 Hc14
    rcases her with rfl | rfl
    ·go_wp2_with fail
     go_ret
     exact ⟨rfl, Hb14.out⟩
    ·go_wp2_with fail
     go_ret
     exact ⟨rfl, Hb14.out⟩
end Go.Proofs.YtcadjekcdokkjaaGreat
