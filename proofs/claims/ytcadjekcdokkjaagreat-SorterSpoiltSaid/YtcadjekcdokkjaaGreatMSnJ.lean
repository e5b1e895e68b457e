/- The walk of SorterSpoilt. -/
import Derived.Test.YtcadjekcdokkjaaGreatMJoSn
namespace Go.Proofs.YtcadjekcdokkjaaGreat
set_option linter.unusedVariables false
set_option linter.unusedSimpArgs false
open Go.RowKit
attribute [local go_sem ↓] Go.wp_at_zero Go.wp_at_succ
namespace Pg
theorem spoilt_has {n : Nat} {b : List UInt8} (h : need b.length ≤ n) (i j : Int) (m : UInt8) : putE (List.replicate n none) b = 0 ∧ Has (flipS (putS (List.replicate n none) b) i j m) (putL (List.replicate n none) b) ∧ (putL (List.replicate n none) b).length = need b.length ∧ (flipS (putS (List.replicate n none) b) i j m).length = n := by
 have hu : used (List.replicate n (none : Option (List UInt8))) = 0 := used_none n
 have hl : (List.replicate n (none : Option (List UInt8))).length = n := List.length_replicate
 have hr : need b.length ≤ (List.replicate n (none : Option (List UInt8))).length - used (List.replicate n (none : Option (List UInt8))) := by rw [hu, hl]; omega
 obtain ⟨hE, hh, hnd, _⟩ := put_holds hr
 obtain ⟨ha1, ha2, ha3, ha4⟩ := alloc_has h
 have hat : ∀ k ∈ putL (List.replicate n none) b, ∃ x, (putS (List.replicate n none) b)[k]? = some (some x) := fun k hk => by
  obtain ⟨q, hq⟩ := List.getElem?_of_mem hk
  have := hh.at_ q k hq
  rw [at_nat] at this
  exact ⟨_, Option.join_eq_some_iff.1 this⟩
 have hus : used (putS (List.replicate n none) b) = need b.length := by
  unfold putS putL
  rw [used_lays _ _ _ ha2.at_, ha2.used, ha3]
 have hpl : (putS (List.replicate n none) b).length = n := by unfold putS; rw [length_lays, ha4]
 have hH : Has (putS (List.replicate n none) b) (putL (List.replicate n none) b) := ⟨hnd, hat, by rw [hus, hh.len]⟩
 refine ⟨hE, ?_, hh.len, ?_⟩
 ·unfold flipS
  split
  ·exact hH
  ·rename_i l hl2
   split
   ·obtain ⟨h0, h1, h2⟩ := at_some hl2
    refine ⟨hH.nodup, fun k hk => ?_, by rw [used_same h2]; exact hH.used⟩
    by_cases e : i.toNat = k
    ·rw [e] at h1 ⊢
     exact ⟨_, List.getElem?_set_self h1⟩
    ·rw [List.getElem?_set_ne e]
     exact hat k hk
   ·exact hH
 ·unfold flipS
  split
  ·exact hpl
  ·split
   ·rw [List.length_set, hpl]
   ·exact hpl
theorem raw_same {s s' : St} {i : Nat} (h : s'[i]? = s[i]?) : rawB s' (i : Int) = rawB s (i : Int) ∧ rawE s' (i : Int) = rawE s (i : Int) := by
 unfold rawB rawE
 rw [at_nat, at_nat, h]
 exact ⟨rfl, rfl⟩
end Pg
set_option maxHeartbeats 16000000 in
set_option maxRecDepth 100000 in
theorem spoiltS_walk (rs : List RowM) (hs : List Value) (n c : Nat) (A : Option Addr) (ks : List Ky) (kn kc : Nat) (KA : Option Addr) (wh ata ma : Nat) (w : World) (hn : rs.length = n) (hnc : n ≤ c) (hc : c ≤ 9223372036854775807) (hA : Rd w A hs) (hR : Rows w hs rs)
  (hkn : ks.length = kn) (hknc : kn ≤ kc) (hkc : kc ≤ 9223372036854775807) (hK : Rd w KA (kyc ks)) (hwh : wh ≤ 255) (hat : ata ≤ 255) (hma : ma ≤ 255) :
  Calls Tryz.prog 8 #[.slice A n c, .slice KA kn kc, .int .u8 (wh : Int), .int .u8 (ata : Int), .int .u8 (ma : Int)] w fun e w' => e = .returned (.bool true) ∧ Below w.heap.size w w' := by
 have Hn := Lib.hid hn
 have HA := Lib.hid hA
 have HR := Lib.hid hR
 have HK := Lib.hid (key_take hK (min kn 10))
 have Hkl := Lib.hid (show (ks.take (min kn 10)).length = min kn 10 by rw [List.length_take]; omega)
 clear hn hA hR hK
 have hkm : min kn 10 ≤ 10 := Nat.min_le_right _ _
 generalize ks.take (min kn 10) = kk at *
 obtain ⟨m, hm⟩ : ∃ m : UInt8, m.toNat = ma := ⟨UInt8.ofNat ma, by simp; omega⟩
 subst hm
 obtain ⟨W, hW⟩ : ∃ x, x = wh % 6 := ⟨_, rfl⟩
 obtain ⟨J, hJ⟩ : ∃ x, x = ata % 64 := ⟨_, rfl⟩
 have e1 : (wh : Int).tmod 6 = (W : Int) := by rw [Int.tmod_eq_emod_of_nonneg (by omega)]; omega
 have e2 : (ata : Int).tmod 64 = (J : Int) := by rw [Int.tmod_eq_emod_of_nonneg (by omega)]; omega
 have f1 : IntKind.i64.wrap (wh : Int) = (wh : Int) := by rw [IntKind.wrap_i64]; omega
 have f2 : IntKind.i64.wrap (ata : Int) = (ata : Int) := by rw [IntKind.wrap_i64]; omega
 have f3 : IntKind.i64.wrap (W : Int) = (W : Int) := by rw [IntKind.wrap_i64]; omega
 have f4 : IntKind.i64.wrap (J : Int) = (J : Int) := by rw [IntKind.wrap_i64]; omega
 have bW : W < 6 := by omega
 clear hW hJ
 go_enter Tryz.func8, Tryz.ntmps8
 go_wp2_with fail
 refine (shown18 w).mono ?_
 rintro e w0 ⟨rfl, hb0⟩
 have Hb0 := Lib.hid hb0
 clear hb0
 go_wp2_with fail
 refine (few18_any rs hs n c A w0 Hn.out hnc hc (HA.out.below Hb0.out) (HR.out.below Hb0.out)).mono ?_
 rintro e w1 ⟨⟨k, hk, hfew, rfl⟩, hb1⟩
 have hxl : (rs.take k).length = k := by rw [List.length_take, Hn.out]; omega
 have HX := Lib.hid (rdTake HA.out k)
 have HXR := Lib.hid (HR.out.take k)
 have hk60 : k ≤ 60 := by have := hfew.len; omega
 generalize rs.take k = xs at *
 generalize hs.take k = js at *
 have hkc2 : k ≤ c := by omega
 have Hfew := Lib.hid hfew
 have Hxl := Lib.hid hxl
 have Hb1 := Lib.hid (Hb0.out.trans (hb1.mono Hb0.out.size))
 have Hok := Lib.hid HXR.out.okAll
 clear hxl hb1 hfew Hb0 HA HR Hn
 go_wp2_with fail
 refine (some18_any kn kc KA w1 hknc hkc).mono ?_
 rintro e w2 ⟨rfl, hw2⟩
 obtain rfl := hw2
 obtain ⟨K0, hK0⟩ : ∃ m, m = min kn 10 := ⟨_, rfl⟩
 rw [← hK0] at Hkl hkm ⊢
 clear hK0
 go_wp2_with fail
 refine (new_yes 2000 w1 (by omega)).mono ?_
 rintro e w2 ⟨bs, rfl, hs2, hb2⟩
 have Hs2 := Lib.hid hs2
 have Hb2 := Lib.hid (Hb1.out.trans (hb2.mono Hb1.out.size))
 have hz1 := Hb1.out.size
 have hz2 := hb2.size
 clear hs2 hb2 Hb1
 have hgr := great18_any xs js k c A w2 Hxl.out (HX.out.below Hb2.out) (HXR.out.below Hb2.out) (by omega) 6264 (by omega) (fun r hr => by have := Hfew.out.row r hr; omega)
 have Hgr := Lib.hid hgr
 clear hgr
 go_wp2_with fail
 refine Hgr.out.mono ?_
 rintro e w3 ⟨G, rfl, hG, hG2, hb3⟩
 have HG := Lib.hid hG
 have Hs3 := Lib.hid (Hs2.out.below hb3)
 have Hb3 := Lib.hid (Hb2.out.trans (hb3.mono Hb2.out.size))
 have hz3 := hb3.size
 clear hG hb3 Hs2 Hb2 Hgr
 obtain ⟨R, hR⟩ : ∃ R, R = 3 * G + 50 := ⟨_, rfl⟩
 have g1 : IntKind.i64.wrap (3 * (G : Int)) = (R : Int) - 50 := by rw [IntKind.wrap_i64]; omega
 have g2 : IntKind.i64.wrap ((R : Int) - 50 + 50) = (R : Int) := by rw [IntKind.wrap_i64]; omega
 have g3 : (R : Int) ≤ 1048576 := by omega
 have bR : R ≤ 20000 := by omega
 have HRe := Lib.hid hR
 clear hR
 go_wp2_with fail
 refine (pnew_any R w3 (by omega)).mono ?_
 rintro e w4 ⟨bp, rfl, hp4, hbp, hb4⟩
 have Hs4 := Lib.hid (Hs3.out.below hb4)
 have Hb4 := Lib.hid (Hb3.out.trans (hb4.mono Hb3.out.size))
 have Hp4 := Lib.hid hp4
 have hz4 := hb4.size
 clear hp4 hb4 Hs3 Hb3
 go_wp2_with (first | (at_builtin; refine hold ?_) | (at_make; refine hold ?_))
 (with_reducible refine unhold ?_)
 refine wpList_mkn rfl _ _ _ rfl E8 w4.heap.size _ _ _ _ 300 rfl rfl rfl rfl (by omega) (by unfold maxLen; omega) (Nat.le_refl _) ?_
 intro w5 ho5 hb5 hlt5
 rw [Nat.mul_one] at ho5
 have hk5 := ho5.blk.1
 rw [show (Value.cells (.int .u8 0)) = #[.int .u8 0] from rfl, toList_madeCells_one] at hk5
 have e300 : List.replicate 300 (Value.int .u8 0) = Bs (List.replicate 300 0) := by simp
 rw [e300] at hk5
 have Hs5 := Lib.hid (Hs4.out.below hb5)
 have Hp5 := Lib.hid (Hp4.out.below hb5)
 have Hb5 := Lib.hid (Hb4.out.trans (hb5.mono Hb4.out.size))
 have hz5 := hb5.size
 have hneed : Pg.need (List.replicate 300 (0 : UInt8)).length = 6 := by rw [List.length_replicate]; decide
 have hput := put_c w1.heap.size bs (List.replicate 2000 none) (some ⟨w4.heap.size, 0, none⟩) (List.replicate 300 0) 300 300 w5 Hs5.out List.length_replicate (by omega) (by omega) (by omega) (Rs.of_blk hk5 (by decide)) (by omega)
 have hsp := fun i j => Pg.spoilt_has (n := 2000) (b := List.replicate 300 0) (by rw [hneed]; omega) i j m
 have hE := (hsp 0 0).1
 have hL6 := (hsp 0 0).2.2.1
 rw [hneed] at hL6
 rw [hE, hL6] at hput
 have Hput := Lib.hid hput
 have Hsp := Lib.hid (fun i j => (hsp i j).2.1)
 have Hsl := Lib.hid (fun i j => (hsp i j).2.2.2)
 clear hput hsp hE hneed e300 hk5 ho5 hb5 hlt5 Hs4 Hp4 Hb4
 have HL6 := Lib.hid hL6
 clear hL6
 generalize Pg.putS (List.replicate 2000 none) (List.replicate 300 0) = sP at *
 generalize Pg.putL (List.replicate 2000 none) (List.replicate 300 0) = N at *
 go_wp2_with fail
 refine Hput.out.mono ?_
 rintro e w6 ⟨A6, c6, rfl, ho6, hs6, hk6⟩
 have Hs6 := Lib.hid hs6
 have Hp6 := Lib.hid (Blk.keeps Hp5.out (by decide) hk6)
 have Hb6 := Lib.hid (Hb5.out.trans ((hk6.below (by omega)).mono hz1))
 have hz6 := hk6.size
 obtain ⟨x, hx⟩ : ∃ x, N[W]? = some x := ⟨_, List.getElem?_eq_getElem (by rw [HL6.out]; exact bW)⟩
 have hxm := List.mem_of_getElem? hx
 have hx2 : x < 2000 := by
  have h1 := (Hsp.out 0 0).lt x hxm
  rw [Hsl.out 0 0] at h1
  exact h1
 obtain ⟨gi, rfl⟩ : ∃ gi, A6 = some ⟨gi, 0, none⟩ := by
  rcases Own.lies ho6 with ⟨_, h6, _⟩ | ⟨g', cur, ha, _⟩
  ·omega
  ·exact ⟨g', ha⟩
 have hxi : (Is N)[W]? = some (.int .i64 (x : Int)) := by simp [hx]
 have q6 := (Own.cell1 ho6 hxi).1
 have Hxi := Lib.hid hxi
 have Ho6 := Lib.hid ho6
 have Hxm := Lib.hid hxm
 have hWI : (W : Int) < 6 := by omega
 have hWI0 : (0 : Int) ≤ (W : Int) := by omega
 clear hs6 hk6 ho6 hxi hx hxm Hput Hs5 Hp5 Hb5
 have hfl := Lib.hid (flip_c w1.heap.size bs sP (x : Int) (J : Int) m w6 Hs6.out (by omega) (by omega))
 go_wp2_with fail
 refine hfl.out.mono ?_
 rintro e w7 ⟨rfl, hs7, hk7⟩
 have Hs7 := Lib.hid hs7
 have Hp7 := Lib.hid (Blk.keeps Hp6.out (by decide) hk7)
 have Hb7 := Lib.hid (Hb6.out.trans ((hk7.below (by omega)).mono hz1))
 have Ho7 := Lib.hid (Own.keeps Ho6.out (by decide) hk7)
 have HN := Lib.hid (Hsp.out (x : Int) (J : Int))
 have HSl := Lib.hid (Hsl.out (x : Int) (J : Int))
 have q7 := (Own.cell1 Ho7.out Hxi.out).1
 have hz7 := hk7.size
 clear hs7 hk7 hfl Hs6 Hp6 Hb6 Ho6 q6 Hsp Hsl
 generalize Pg.flipS sP (x : Int) (J : Int) m = sF at *
 have hra := Lib.hid (raw_c w1.heap.size bs sF (x : Int) w7 Hs7.out (by omega) (by omega))
 obtain ⟨RB, hRB⟩ : ∃ r, r = Pg.rawB sF (x : Int) := ⟨_, rfl⟩
 obtain ⟨RE, hRE⟩ : ∃ r, r = Pg.rawE sF (x : Int) := ⟨_, rfl⟩
 rw [← hRB, ← hRE] at hra
 have HRB := Lib.hid hRB
 have HRE := Lib.hid hRE
 clear hRB hRE
 go_wp2_with fail
 refine hra.out.mono ?_
 rintro e w8 ⟨A8, c8, rfl, ho8, hb8⟩
 have Hs8 := Lib.hid (Hs7.out.below hb8)
 have Hp8 := Lib.hid (Hp7.out.below hb8)
 have Hb8 := Lib.hid (Hb7.out.trans (hb8.mono Hb7.out.size))
 have Ho8 := Lib.hid (Own.below Ho7.out hb8)
 have HW8 := Lib.hid ho8
 have hz8 := hb8.size
 clear hb8 ho8 hra Hs7 Hp7 Hb7 Ho7 q7
 have hby := Hfew.out.bytes Hok.out
 have hsrt := sort_s w8 w1.heap.size bs bp KA K0 kc R R A k c js xs kk N sF R 3 G (by omega) (by omega) Hs8.out Hp8.out HN.out (came_arg HX.out HXR.out Hb8.out (by omega) (by omega)) Hxl.out (by omega) (key_arg HK.out Hb8.out (by omega) (by omega)) Hkl.out (by omega) (by omega) (by omega) (Nat.le_refl _) (by omega) (Nat.le_refl _) (by omega) (Hfew.out.fineR Hok.out HG.out) (by omega)
 have Hsrt := Lib.hid hsrt
 clear hsrt
 go_wp2_with fail
 refine Hsrt.out.mono ?_
 rintro e w9 ⟨hend, least', hle', hdo⟩
 have hcase : ∃ A9 c9, e = .returned (.tuple #[.slice A9 k c9, .int .i64 0]) ∧ Told w9 w1.heap.size A9 k c9 (sortR kk xs) := by
  rcases hend with ⟨A9, c9, h1, h2, _⟩ | ⟨_, h1, _⟩ | ⟨_, h1, _⟩
  ·rw [Hxl.out] at h1 h2
   exact ⟨A9, c9, h1, h2⟩
  ·have h3 := HRe.out
   omega
  ·rw [HL6.out, HSl.out, Hxl.out] at h1
   omega
 obtain ⟨A9, c9, rfl, hT⟩ := hcase
 have hk9 := hdo.fr.purse Hp8.out (by omega)
 have hb89 := hdo.belowM (M := w.heap.size) (by omega) (by omega) (by omega)
 obtain ⟨s9, hs9, hN9, hsm9, _⟩ := hdo.st
 have hu9 : Pg.used s9 = 6 := by rw [hN9.used, HL6.out]
 have Hb9 := Lib.hid (Hb8.out.trans hb89)
 have HT9 := Lib.hid hT
 have Hs9 := Lib.hid hs9
 have Hu9 := Lib.hid hu9
 have hrw := Pg.raw_same (hsm9 x Hxm.out)
 rw [← HRB.out, ← HRE.out] at hrw
 have Hrw := Lib.hid hrw
 have Ho9 := Lib.hid (Own.keeps Ho8.out (by decide) hk9)
 have HW9 := Lib.hid (Own.keeps HW8.out (by decide) hk9)
 have q9 := (Own.cell1 Ho9.out Hxi.out).1
 clear hend hdo hk9 hb89 hs9 hN9 hsm9 hu9 hT hrw Hsrt Hb8 Hp8 Hs8 Ho8 HW8
 have hra9 := raw_c w1.heap.size bs s9 (x : Int) w9 Hs9.out (by omega) (by omega)
 rw [Hrw.out.1, Hrw.out.2] at hra9
 have Hra9 := Lib.hid hra9
 clear hra9
 go_wp2_with fail
 refine Hra9.out.mono ?_
 rintro e v1 ⟨A10, c10, rfl, ho10, hb10⟩
 have Hb10 := Lib.hid (Hb9.out.trans (hb10.mono Hb9.out.size))
 have HT10 := Lib.hid (HT9.out.below hb10)
 have Hs10 := Lib.hid (Hs9.out.below hb10)
 have HW10 := Lib.hid (Own.below HW9.out hb10)
 have HV10 := Lib.hid ho10
 clear hb10 ho10 Hra9 Hb9 HT9 Hs9 HW9 Ho9 q9
 have hso := Lib.hid (sort_k xs js k c A KA K0 kc kk v1 Hxl.out (HX.out.below Hb10.out) (HXR.out.below Hb10.out) (by omega) (fun r hr => by have := (Hfew.out.row r hr).2; omega) Hkl.out (HK.out.below Hb10.out) (by omega))
 go_wp2_with fail
 refine hso.out.mono ?_
 rintro e v2 ⟨gg, dd, rfl, hd, hm2, hb11⟩
 have hTd := hd.told (B := w1.heap.size) hm2
 obtain ⟨hl2, h22, hr2, hR2⟩ := hTd.rows
 obtain ⟨hTl, hh8, hT1, hT2⟩ := (HT10.out.below hb11).rows
 have hlen : ∀ r ∈ sortR kk xs, r.length ≤ 140737488355328 := fun r hr => by
  have := (Hfew.out.row r ((sort_perm kk xs).mem_iff.1 hr)).2
  omega
 have hsame := samerows_any (sortR kk xs) (sortR kk xs) hh8 h22 k k A9 (some ⟨gg, 0, none⟩) c9 k v2 hTl hl2 hT1 hr2 hT2 hR2 (by omega) (by omega) hlen hlen
 rw [decide_eq_true rfl] at hsame
 have Hsame := Lib.hid hsame
 have Hb11 := Lib.hid (Hb10.out.trans (hb11.mono Hb10.out.size))
 have Hs11 := Lib.hid (Hs10.out.below hb11)
 have HW11 := Lib.hid (Own.below HW10.out hb11)
 have HV11 := Lib.hid (Own.below HV10.out hb11)
 clear hd hm2 hTd hl2 hr2 hR2 hTl hT1 hT2 hlen hsame hb11 hso HT10 Hs10 Hb10 HW10 HV10
 go_wp2_with fail
 refine Hsame.out.mono ?_
 rintro e v3 ⟨rfl, q3, rfl⟩
 have Hs12 := Lib.hid (Hs11.out.below (drewB v2 q3))
 have Hb12 := Lib.hid (Hb11.out.trans ((drewB v2 q3).mono Hb11.out.size))
 have hW12 := Own.below HW11.out (drewB v2 q3)
 have hV12 := Own.below HV11.out (drewB v2 q3)
 clear Hsame Hs11 Hb11 HW11 HV11
 generalize v2.drewN q3 = v3 at *
 obtain ⟨nb, hnb⟩ : ∃ nb, nb = RB.length := ⟨_, rfl⟩
 rw [← hnb] at hW12 hV12 ⊢
 have hv1 := run_str v3 A8 RB nb c8 hnb.symm hW12.rd
 have hv2 := run_str v3 A10 RB nb c10 hnb.symm hV12.rd
 have hcm := St8_cmp RB RB
 rw [decide_eq_true rfl] at hcm
 have hus := used_c w1.heap.size bs s9 v3 Hs12.out
 rw [Hu9.out] at hus
 have Hus := Lib.hid hus
 clear hW12 hV12 hus hnb
 go_wp2_with fail
 refine Hus.out.mono ?_
 rintro e v4 ⟨rfl, hv4⟩
 obtain rfl := hv4
 go_wp2_with fail
 go_ret
 exact ⟨rfl, Hb12.out⟩
end Go.Proofs.YtcadjekcdokkjaaGreat
