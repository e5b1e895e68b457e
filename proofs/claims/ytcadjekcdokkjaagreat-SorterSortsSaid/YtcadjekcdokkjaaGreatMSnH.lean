/- The walk of SorterSorts. -/
import Derived.Test.YtcadjekcdokkjaaGreatMJoSn
namespace Go.Proofs.YtcadjekcdokkjaaGreat
set_option linter.unusedVariables false
set_option linter.unusedSimpArgs false
open Go.RowKit
attribute [local go_sem ↓] Go.wp_at_zero Go.wp_at_succ
set_option maxHeartbeats 16000000 in
set_option maxRecDepth 100000 in
theorem sorts_walk (rs : List RowM) (hs : List Value) (n c : Nat) (A : Option Addr) (ks : List Ky) (kn kc : Nat) (KA : Option Addr) (fa mo : Nat) (w : World) (hn : rs.length = n) (hnc : n ≤ c) (hc : c ≤ 9223372036854775807) (hA : Rd w A hs) (hR : Rows w hs rs)
  (hkn : ks.length = kn) (hknc : kn ≤ kc) (hkc : kc ≤ 9223372036854775807) (hK : Rd w KA (kyc ks)) (hfa : fa ≤ 255) (hmo : mo ≤ 65535) :
  Calls Tryz.prog 5 #[.slice A n c, .slice KA kn kc, .int .u8 (fa : Int), .int .u16 (mo : Int)] w fun e w' => e = .returned (.bool true) ∧ Below w.heap.size w w' := by
 have Hn := Lib.hid hn
 have HA := Lib.hid hA
 have HR := Lib.hid hR
 have HK := Lib.hid (key_take hK (min kn 10))
 have Hkl := Lib.hid (show (ks.take (min kn 10)).length = min kn 10 by rw [List.length_take]; omega)
 clear hn hA hR hK
 have hkm : min kn 10 ≤ 10 := Nat.min_le_right _ _
 generalize ks.take (min kn 10) = kk at *
 obtain ⟨F, hF⟩ : ∃ m, m = fa % 15 + 2 := ⟨_, rfl⟩
 obtain ⟨M, hM⟩ : ∃ m, m = mo % 1001 := ⟨_, rfl⟩
 have e1 : (fa : Int).tmod 15 = (F : Int) - 2 := by rw [Int.tmod_eq_emod_of_nonneg (by omega)]; omega
 have e2 : (mo : Int).tmod 1001 = (M : Int) := by rw [Int.tmod_eq_emod_of_nonneg (by omega)]; omega
 have bF : 2 ≤ F ∧ F ≤ 16 := by omega
 have bM : M ≤ 1000 := by omega
 have f1 : IntKind.i64.wrap ((F : Int) - 2) = (F : Int) - 2 := by rw [IntKind.wrap_i64]; omega
 have f2 : IntKind.i64.wrap (M : Int) = (M : Int) := by rw [IntKind.wrap_i64]; omega
 have f3 : IntKind.i64.wrap ((F : Int) - 2 + 2) = (F : Int) := by rw [IntKind.wrap_i64]; omega
 clear hF hM
 go_enter Tryz.func5, Tryz.ntmps5
 go_wp2_with fail
 refine (shown18 w).mono ?_
 rintro e w0 ⟨rfl, hb0⟩
 have Hb0 := Lib.hid hb0
 clear hb0
 go_wp2_with fail
 refine (few18_any rs hs n c A w0 Hn.out hnc hc (HA.out.below Hb0.out) (HR.out.below Hb0.out)).mono ?_
 rintro e w1 ⟨⟨k, hk, hfew, rfl⟩, hb1⟩
 have hxl : (rs.take k).length = k := by rw [List.length_take, Hn.out]; omega
 have HX := Lib.hid (rdTake HA.out k)
 have HXR := Lib.hid (HR.out.take k)
 have hk60 : k ≤ 60 := by have := hfew.len; omega
 generalize rs.take k = xs at *
 generalize hs.take k = js at *
 have hkc2 : k ≤ c := by omega
 have Hfew := Lib.hid hfew
 have Hxl := Lib.hid hxl
 have Hb1 := Lib.hid (Hb0.out.trans (hb1.mono Hb0.out.size))
 have Hok := Lib.hid HXR.out.okAll
 clear hxl hb1 hfew Hb0 HA HR Hn
 go_wp2_with fail
 refine (some18_any kn kc KA w1 hknc hkc).mono ?_
 rintro e w2 ⟨rfl, hw2⟩
 obtain rfl := hw2
 obtain ⟨K0, hK0⟩ : ∃ m, m = min kn 10 := ⟨_, rfl⟩
 rw [← hK0] at Hkl hkm ⊢
 clear hK0
 have hgr := great18_any xs js k c A w1 Hxl.out (HX.out.below Hb1.out) (HXR.out.below Hb1.out) (by omega) 6264 (by omega) (fun r hr => by have := Hfew.out.row r hr; omega)
 have Hgr := Lib.hid hgr
 clear hgr
 go_wp2_with fail
 refine Hgr.out.mono ?_
 rintro e w3 ⟨G, rfl, hG, hG2, hb3⟩
 have HG := Lib.hid hG
 have Hb3 := Lib.hid (Hb1.out.trans (hb3.mono Hb1.out.size))
 clear hG hb3 Hb1 Hgr
 obtain ⟨P, hP⟩ : ∃ P, P = F * G := ⟨_, rfl⟩
 have hPb : P ≤ 100224 := by
  rw [hP]
  exact Nat.le_trans (Nat.mul_le_mul bF.2 hG2) (by omega)
 have hPI : (F : Int) * (G : Int) = (P : Int) := by rw [hP]; exact (Int.natCast_mul F G).symm
 have hPw : IntKind.i64.wrap ((F : Int) * (G : Int)) = (P : Int) := by rw [hPI, IntKind.wrap_i64]; omega
 obtain ⟨R, hR⟩ : ∃ R, R = P + M := ⟨_, rfl⟩
 have hPm : IntKind.i64.wrap ((P : Int) + (M : Int)) = (R : Int) := by rw [IntKind.wrap_i64]; omega
 have hRb : R ≤ 101224 := by omega
 have hRmin : (R : Int) ≤ 1048576 := by omega
 have HP := Lib.hid hP
 have HRe := Lib.hid hR
 have hGR : G ≤ R := by
  have : G ≤ P := by rw [hP]; exact Nat.le_mul_of_pos_left G (by omega)
  omega
 obtain ⟨K, hK, hKk⟩ := runs_some (room := R) xs 0 0 fun r hr => Nat.le_trans (HG.out r hr) hGR
 have hK : runsN R xs = some K := hK
 have HKs := Lib.hid hK
 rw [Hxl.out, Nat.zero_add] at hKk
 have hru := rruns_any xs js k c A R w3 Hxl.out (HX.out.below Hb3.out) (HXR.out.below Hb3.out) (by omega) (by omega) (fun r hr => by have := Hfew.out.row r hr; omega)
 rw [(runsK_some hK).1, (runsK_some hK).2] at hru
 have Hru := Lib.hid hru
 clear hP hPI hru hR hK
 go_wp2_with fail
 refine Hru.out.mono ?_
 rintro e w4 ⟨rfl, hb4⟩
 have Hb4 := Lib.hid (Hb3.out.trans (hb4.mono Hb3.out.size))
 have hby := Lib.hid (rbytes_any xs js k c A w4 Hxl.out (HX.out.below Hb4.out) (HXR.out.below Hb4.out) (by omega) Hfew.out.may)
 clear hb4 Hb3 Hru
 go_wp2_with fail
 refine hby.out.mono ?_
 rintro e w5 ⟨A5, L, c5, rfl, hL, _, hb5⟩
 have Hb5 := Lib.hid (Hb4.out.trans (hb5.mono Hb4.out.size))
 have hLb := Hfew.out.bytes Hok.out
 rw [hL] at hLb
 have hnd := Lib.hid (rneed18_any L w5 (by omega))
 have hDl := need_le L
 have hD56 := need_ge56 L
 obtain ⟨D, hD⟩ : ∃ D, D = Pg.need L := ⟨_, rfl⟩
 rw [← hD] at hDl hD56 hnd
 have HL := Lib.hid hL
 clear hb5 Hb4 hby hD hL
 go_wp2_with fail
 refine hnd.out.mono ?_
 rintro e w6 ⟨rfl, hw6⟩
 obtain rfl := hw6
 obtain ⟨C, hC⟩ : ∃ C, C = 2 * D + 2 * K + 4 := ⟨_, rfl⟩
 have g1 : IntKind.i64.wrap (2 * (D : Int)) = 2 * (D : Int) := by rw [IntKind.wrap_i64]; omega
 have g2 : IntKind.i64.wrap (2 * (K : Int)) = 2 * (K : Int) := by rw [IntKind.wrap_i64]; omega
 have g3 : IntKind.i64.wrap (2 * (D : Int) + 2 * (K : Int)) = (C : Int) - 4 := by rw [IntKind.wrap_i64]; omega
 have g4 : IntKind.i64.wrap ((C : Int) - 4 + 4) = (C : Int) := by rw [IntKind.wrap_i64]; omega
 have g5 : (C : Int) ≤ 4096 := by omega
 have HC := Lib.hid hC
 have hCb : C ≤ 4096 := by omega
 clear hnd hC
 go_wp2_with fail
 refine (new_yes C w5 hCb).mono ?_
 rintro e w6 ⟨bs, rfl, hs6, hb6⟩
 have Hs6 := Lib.hid hs6
 have Hb6 := Lib.hid (Hb5.out.trans (hb6.mono Hb5.out.size))
 have hz5 := Hb5.out.size
 have hz6 := hb6.size
 clear hs6 hb6 Hb5
 go_wp2_with fail
 refine (pnew_any R w6 (by omega)).mono ?_
 rintro e w7 ⟨bp, rfl, hp7, hbp, hb7⟩
 have Hs7 := Lib.hid (Hs6.out.below hb7)
 have Hb7 := Lib.hid (Hb6.out.trans (hb7.mono Hb6.out.size))
 have hz7 := hb7.size
 have Hp7 := Lib.hid hp7
 clear hb7 Hb6 hp7 Hs6
 have hsrt := sort_s w7 w5.heap.size bs bp KA K0 kc R R A k c js xs kk [] (List.replicate C none) R F G (by omega) (by omega) Hs7.out Hp7.out (Pg.Has.none_ C) (came_arg HX.out HXR.out Hb7.out (by omega) (by omega)) Hxl.out (by omega) (key_arg HK.out Hb7.out (by omega) (by omega)) Hkl.out (by omega) bF.1 bF.2 (Nat.le_refl _) (by omega) (Nat.le_refl _) (by omega) (Hfew.out.fineR Hok.out HG.out) (by rw [HL.out]; omega)
 have Hsrt := Lib.hid hsrt
 clear hsrt Hs7
 go_wp2_with fail
 refine Hsrt.out.mono ?_
 rintro e w8 ⟨hend, least', hle', hdo⟩
 have hcase : ∃ A8 c8, e = .returned (.tuple #[.slice A8 k c8, .int .i64 0]) ∧ Told w8 w5.heap.size A8 k c8 (sortR kk xs) := by
  rcases hend with ⟨A8, c8, h1, h2, _⟩ | ⟨_, h1, _⟩ | ⟨_, _, h1⟩
  ·rw [Hxl.out] at h1 h2
   exact ⟨A8, c8, h1, h2⟩
  ·have h2 := HP.out
   have h3 := HRe.out
   rw [← h2] at h1
   omega
  ·have h2 := (h1 K HKs.out).2
   rw [HL.out, List.length_replicate] at h2
   have h3 := HC.out
   simp at h2
   omega
 obtain ⟨A8, c8, rfl, hT⟩ := hcase
 have hb78 := hdo.belowM (M := w.heap.size) (by omega) (by omega) (by omega)
 obtain ⟨s8, hs8, hN8, _, _⟩ := hdo.st
 have hu8 : Pg.used s8 = 0 := hN8.used
 have Hb8 := Lib.hid (Hb7.out.trans hb78)
 have HT8 := Lib.hid hT
 have Hs8 := Lib.hid hs8
 have Hp8 := Lib.hid hdo.pu
 have Hu8 := Lib.hid hu8
 have hrs := Lib.hid (rsort_any xs js k c A KA K0 kc kk w8 Hxl.out (HX.out.below Hb8.out) (HXR.out.below Hb8.out) (by omega) Hkl.out (HK.out.below Hb8.out) (by omega))
 clear hend hdo hb78 hs8 hN8 hu8 hT Hsrt Hb7 Hp7
 go_wp2_with fail
 refine hrs.out.mono ?_
 rintro e w9 ⟨A9, n9, c9, h9, rfl, hl9, hr9, hR9, hb9⟩
 obtain ⟨hTl, hh8, hT1, hT2⟩ := (HT8.out.below hb9).rows
 have hlen : ∀ r ∈ sortR kk xs, r.length ≤ 140737488355328 := fun r hr => by
  have := (Hfew.out.row r ((sort_perm kk xs).mem_iff.1 hr)).2
  omega
 have hn9 : n9 = k := by rw [← hl9, hTl]
 subst hn9
 have hsame := samerows_any (sortR kk xs) (sortR kk xs) hh8 h9 n9 n9 A8 A9 c8 c9 w9 hTl hl9 hT1 hr9 hT2 hR9 (by omega) (by omega) hlen hlen
 rw [decide_eq_true rfl] at hsame
 have Hsame := Lib.hid hsame
 have Hb9 := Lib.hid (Hb8.out.trans (hb9.mono Hb8.out.size))
 have Hs9 := Lib.hid (Hs8.out.below hb9)
 have Hp9 := Lib.hid (Hp8.out.below hb9)
 clear hTl hT1 hT2 hlen hl9 hr9 hR9 hsame hb9 hrs HT8 Hs8 Hp8 Hb8
 go_wp2_with fail
 refine Hsame.out.mono ?_
 rintro e v1 ⟨rfl, q1, rfl⟩
 have d1 : Below w9.heap.size w9 (w9.drewN q1) := ⟨rfl, rfl, rfl, Nat.le_refl _, fun _ _ => rfl⟩
 have Hs10 := Lib.hid (Hs9.out.below d1)
 have Hp10 := Lib.hid (Hp9.out.below d1)
 have Hb10 := Lib.hid (Hb9.out.trans (d1.mono Hb9.out.size))
 clear Hsame Hs9 Hp9 Hb9 d1
 generalize w9.drewN q1 = v1 at *
 have hpk := Lib.hid (ppeak_any bp R R least' v1 Hp10.out hle' (by omega))
 have hRl : ((R - least' : Nat) : Int) ≤ (R : Int) := by omega
 go_wp2_with fail
 refine hpk.out.mono ?_
 rintro e v2 ⟨rfl, q2, rfl⟩
 have d2 : Below v1.heap.size v1 (v1.drewN q2) := ⟨rfl, rfl, rfl, Nat.le_refl _, fun _ _ => rfl⟩
 have Hs11 := Lib.hid (Hs10.out.below d2)
 have Hp11 := Lib.hid (Hp10.out.below d2)
 have Hb11 := Lib.hid (Hb10.out.trans (d2.mono Hb10.out.size))
 clear hpk Hs10 Hp10 Hb10 d2
 generalize v1.drewN q2 = v2 at *
 have hnw := pnow_any bp R R least' v2 Hp11.out (Nat.le_refl _) (by omega)
 rw [Nat.sub_self] at hnw
 have Hnw := Lib.hid hnw
 clear hnw
 go_wp2_with fail
 refine Hnw.out.mono ?_
 rintro e v3 ⟨rfl, q3, rfl⟩
 have d3 : Below v2.heap.size v2 (v2.drewN q3) := ⟨rfl, rfl, rfl, Nat.le_refl _, fun _ _ => rfl⟩
 have Hs12 := Lib.hid (Hs11.out.below d3)
 have Hb12 := Lib.hid (Hb11.out.trans (d3.mono Hb11.out.size))
 clear Hnw Hs11 Hp11 Hb11 d3
 generalize v2.drewN q3 = v3 at *
 have hus := used_c w5.heap.size bs s8 v3 Hs12.out
 rw [Hu8.out] at hus
 have Hus := Lib.hid hus
 clear hus
 go_wp2_with fail
 refine Hus.out.mono ?_
 rintro e v4 ⟨rfl, hv4⟩
 obtain rfl := hv4
 go_wp2_with fail
 go_ret
 exact ⟨rfl, Hb12.out⟩
end Go.Proofs.YtcadjekcdokkjaaGreat
