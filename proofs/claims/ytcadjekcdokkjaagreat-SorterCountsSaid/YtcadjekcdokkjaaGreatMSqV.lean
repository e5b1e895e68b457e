/- Walks: a stable sort in place: the symmetric merge. -/
import Derived.Test.YtcadjekcdokkjaaGreatMSqSI
namespace Go.Proofs.YtcadjekcdokkjaaGreat
set_option linter.unusedVariables false
set_option linter.unusedSimpArgs false
open Go.RowKit
attribute [local go_sem ↓] Go.wp_at_zero Go.wp_at_succ
set_option maxHeartbeats 16000000 in
set_option maxRecDepth 100000 in
theorem sym_c (kb kn kc : Nat) (KA : Option Addr) (ks : List Ky) (B g n c : Nat) (hn : n ≤ 1000000) (hnc : n ≤ c) (hkn : kn ≤ 1000000) : ∀ (z : Nat) (d : Nat → Hr) (a m b : Nat) (w : World), b - a ≤ z → a < m → m < b → b ≤ n → Dat w B g n d → KeyAt w B kb kn kc KA ks → Sq.Srt (leK ks) d a m → Sq.Srt (leK ks) d m b → (∀ i j, a ≤ i → i < m → m ≤ j → j < b → (d i).ix < (d j).ix) →
  Calls Tryz.prog 90 #[.slice (some ⟨g, 0, none⟩) n c, .int .i64 a, .int .i64 m, .int .i64 b, .func (Fn.func 55) #[] #[.pointer (some ⟨kb, 0, none⟩)]] w fun e w' => ∃ d', e = .returned (.tuple #[]) ∧ Dat w' B g n d' ∧ Sq.Sub d d' a b ∧ Sq.Srt (leK ks) d' a b ∧ Keeps [23] B w w' := by
 intro z
 induction z with
 | zero => intro d a m b w h1 h2 h3; omega
 | succ z ih =>
 intro d a m b w hz ham hmb hbn h hK hs1 hs2 hix
 have Ih := Lib.hid ih
 have H := Lib.hid h
 have HK := Lib.hid hK
 have Hs1 := Lib.hid hs1
 have Hs2 := Lib.hid hs2
 have w1 : IntKind.i64.wrap ((m : Int) - (a : Int)) = (m : Int) - (a : Int) := by rw [IntKind.wrap_i64]; omega
 have w2 : IntKind.i64.wrap ((b : Int) - (m : Int)) = (b : Int) - (m : Int) := by rw [IntKind.wrap_i64]; omega
 have Hix := Lib.hid hix
 clear ih h hK hs1 hs2 hix
 by_cases hm1 : m = a + 1
 ·have w3 : (m : Int) - (a : Int) = 1 := by omega
  have w1 : IntKind.i64.wrap 1 = 1 := by rw [IntKind.wrap_i64]; omega
  have Hm1 := Lib.hid hm1
  have Hs2' : Hid (Sq.Srt (leK ks) d (a + 1) b) := by rw [← hm1]; exact Hs2.out
  clear hm1
  have hpl := Lib.hid (Sq.Plc.start (leK ks) d (d a) (show a + 1 ≤ b by have := Hm1.out; omega))
  go_enter Tryz.func90, Tryz.ntmps90
  go_wp2_with fail
  go_loopw [10, 11] (fun vi vj wr => ∃ i j : Nat, vi = .int .i64 i ∧ vj = .int .i64 j ∧ i ≤ j ∧ j ≤ b ∧ a + 1 ≤ i ∧ Hid (Sq.Plc (leK ks) d (d a) (a + 1) b i j) ∧ Hid (Dat wr B g n d) ∧ Hid (Keeps [23] B w wr)) (fun i j _ => (intOf j).toNat - (intOf i).toNat)
  case atStart => exact ⟨m, b, rfl, rfl, by omega, by omega, by have := Hm1.out; omega, by rw [Hm1.out]; exact hpl.out, H.out, Keeps.refl _ _ _⟩
  case round =>
   clear w1 w2 w3
   obtain ⟨i, j, rfl, rfl, hij, hjb, hai, Hpl, Hd, Hk⟩ := hrel
   by_cases hlt : i < j
   ·skip
    obtain ⟨h, hh, hh1, hh2⟩ : ∃ h : Nat, ((i : Int) + (j : Int)) / 2 = (h : Int) ∧ i ≤ h ∧ h < j := ⟨(i + j) / 2, by omega, by omega, by omega⟩
    have hhn : h < n := by omega
    have t1 : (0 : Int) ≤ (h : Int) := by omega
    have t2 : (h : Int) < (n : Int) := by omega
    have han : a < n := by omega
    have s1 : (0 : Int) ≤ (a : Int) := by omega
    have s2 : (a : Int) < (n : Int) := by omega
    have ca := Hd.out.cell hhn
    have cb := Hd.out.cell han
    obtain ⟨A1, c1, e1, o1, _⟩ := Hd.out.row (h) hhn
    obtain ⟨A2, c2, e2, o2, _⟩ := Hd.out.row (a) han
    have hcl := scmp_any (d (h)).2 (d (a)).2 _ c1 _ c2 A1 A2 B kb kn kc KA ks wr.drew rfl rfl (o1.rd.below (Below.refl _ _).drew) (o2.rd.below (Below.refl _ _).drew) ((HK.out.keeps Hk.out).below (Below.refl _ _).drew) hkn
    have hle := cmp_leK ks (d (h)) (d (a)) (Hix.out a h (by omega) (by omega) (by have := Hm1.out; omega) (by omega))
    rw [e1] at ca
    rw [e2] at cb
    generalize cmpR ks (d (h)).2 (d (a)).2 = R at *
    generalize (d (h)).2.length = l1 at *
    generalize (d (a)).2.length = l2 at *
    have Hcl := Lib.hid hcl
    have Hle := Lib.hid hle
    have cad : wr.drew.cell? ⟨g, h, none⟩ = some (.slice A1 l1 c1) := ca
    have cbd : wr.drew.cell? ⟨g, a, none⟩ = some (.slice A2 l2 c2) := cb
    clear hcl hle e1 e2 o1 o2
    go_wp2_with fail
    go_region_held3 (fun w' => w'.cell? ⟨g, h, none⟩ = some (.slice A1 l1 c1) ∧ w'.cell? ⟨g, a, none⟩ = some (.slice A2 l2 c2))
     (first | assumption | exact ⟨ca, cb⟩ | exact ⟨cad, cbd⟩ | exact ⟨ca3, cb3⟩)
     (first | (go_at_call 55; refine Hcl.out.mono ?_; rintro e w3 ⟨rfl, hb3⟩; have ca3 := cell_keep hb3 cad; have cb3 := cell_keep hb3 cbd))
    have hb3' : Below wr.heap.size wr w3 := (Below.refl _ _).drew.trans hb3
    have Hd3 := Lib.hid (Hd.out.below hb3')
    have Hk3 := Lib.hid (Hk.out.then_below hb3')
    clear hb3 hb3' Hcl Hk ca cb cad cbd Hd ca3 cb3
    clear s1 s2 t1 t2
    by_cases hneg : R < 0
    ·have hst := Lib.hid (Sq.Plc.right (leK_ordr ks) Hpl.out Hs2'.out hh1 hh2 (Hle.out.1 hneg))
     go_wp2_with fail
     go_roundw
     case rel => exact ⟨h + 1, j, by go_num, rfl, by omega, hjb, by omega, hst.out, Hd3.out, Hk3.out⟩
     case measure => simp [intOf]; omega
    ·have hst := Lib.hid (Sq.Plc.left (leK_ordr ks) Hpl.out Hs2'.out hh1 hh2 (Classical.byContradiction fun h => hneg (Hle.out.2 h)))
     go_wp2_with fail
     go_roundw
     case rel => exact ⟨i, h, rfl, by go_num, by omega, by omega, hai, hst.out, Hd3.out, Hk3.out⟩
     case measure => simp [intOf]; omega
   ·skip
    obtain rfl : i = j := by omega
    have hfin := Lib.hid (Sq.Plc.fin (leK_ordr ks) Hpl.out Hs2'.out)
    have v1 : IntKind.i64.wrap ((i : Int) - 1) = (i : Int) - 1 := by rw [IntKind.wrap_i64]; omega
    clear Hpl
    go_wp2_with fail
    go_loopw [13] (fun vk wr => ∃ k : Nat, a ≤ k ∧ k + 1 ≤ i ∧ vk = .int .i64 k ∧ Hid (Dat wr B g n (Sq.upTo d a k)) ∧ Hid (Keeps [23] B w wr)) (fun k _ => i - (intOf k).toNat)
    case atStart => exact ⟨a, by omega, by omega, rfl, by rw [Sq.upTo_zero]; exact Hd.out, Hk.out⟩
    case round =>
     clear Hd Hk
     obtain ⟨k, hk1, hk2, rfl, Hd, Hk⟩ := hrel
     by_cases hkl : k + 1 < i
     ·skip
      have hx : k < n := by omega
      have hy : k + 1 < n := by omega
      have s1 : (0 : Int) ≤ (k : Int) := by omega
      have s2 : (k : Int) < (n : Int) := by omega
      have s3 : (0 : Int) ≤ (k : Int) + 1 := by omega
      have s4 : (k : Int) + 1 < (n : Int) := by omega
      have s5 : IntKind.i64.wrap ((k : Int) + 1) = (k : Int) + 1 := by rw [IntKind.wrap_i64]; omega
      have s6 : ((k : Int) + 1).toNat = k + 1 := by omega
      have s7 : (k : Int) < (i : Int) - 1 := by omega
      have ca := Hd.out.cell hx
      have cb := Hd.out.cell hy
      have fa := Hd.out.blk.frozen (k)
      have fb := Hd.out.blk.frozen (k + 1)
      have hsw := Hd.out.swap hx hy
      obtain ⟨A1, c1, e1, _⟩ := Hd.out.row (k) hx
      obtain ⟨A2, c2, e2, _⟩ := Hd.out.row (k + 1) hy
      rw [e1, e2] at hsw
      rw [e1] at ca
      rw [e2] at cb
      generalize (Sq.upTo d a k (k)).2.length = l1 at *
      generalize (Sq.upTo d a k (k + 1)).2.length = l2 at *
      rw [Sq.upTo_succ d hk1] at hsw
      have Hsw := Lib.hid hsw
      clear hsw e1 e2 Hd
      go_wp2_with fail
      go_region
      go_wp2_with fail
      go_roundw
      case rel => exact ⟨k + 1, by omega, by omega, by go_num, Hsw.out.1.below (Below.refl _ _).drew, (Hk.out.trans Hsw.out.2).then_below (Below.refl _ _).drew⟩
      case measure => simp [intOf]; omega
     ·skip
      have hke : k = i - 1 := by omega
      have s7 : ¬ (k : Int) < (i : Int) - 1 := by omega
      rw [← hke] at hfin
      clear hke
      go_wp2_with fail
      (try simp only [Exit.inBlock, Exit.then]); refine bodyPost_ret (results_none rfl _ _ _) rfl ?_
      first | exact ⟨_, rfl, Hd.out, hfin.out.1, hfin.out.2, Hk.out⟩ | exact ⟨rfl, _, Hd.out, hfin.out.1, hfin.out.2, Hk.out⟩
 ·by_cases hb1 : b = m + 1
  ·have w3 : (b : Int) - (m : Int) = 1 := by omega
   have w2 : IntKind.i64.wrap 1 = 1 := by rw [IntKind.wrap_i64]; omega
   have Hmb := Lib.hid hb1.symm
   clear hb1
   have w4 : ((m : Int) - (a : Int) == 1) = false := by rw [beq_eq_false_iff_ne]; omega
   have hpl := Lib.hid (Sq.Plb.start (leK ks) d (d m) (show a ≤ m by omega))
   go_enter Tryz.func90, Tryz.ntmps90
   go_wp2_with fail
   go_loopw [14, 15] (fun vi vj wr => ∃ i j : Nat, vi = .int .i64 i ∧ vj = .int .i64 j ∧ i ≤ j ∧ j ≤ m ∧ a ≤ i ∧ Hid (Sq.Plb (leK ks) d (d m) a m i j) ∧ Hid (Dat wr B g n d) ∧ Hid (Keeps [23] B w wr)) (fun i j _ => (intOf j).toNat - (intOf i).toNat)
   case atStart => exact ⟨a, m, rfl, rfl, by omega, by omega, by omega, hpl.out, H.out, Keeps.refl _ _ _⟩
   case round =>
    clear w1 w2 w3 w4
    obtain ⟨i, j, rfl, rfl, hij, hjb, hai, Hpl, Hd, Hk⟩ := hrel
    by_cases hlt : i < j
    ·skip
     obtain ⟨h, hh, hh1, hh2⟩ : ∃ h : Nat, ((i : Int) + (j : Int)) / 2 = (h : Int) ∧ i ≤ h ∧ h < j := ⟨(i + j) / 2, by omega, by omega, by omega⟩
     have hhn : h < n := by omega
     have t1 : (0 : Int) ≤ (h : Int) := by omega
     have t2 : (h : Int) < (n : Int) := by omega
     have hmn : m < n := by omega
     have s1 : (0 : Int) ≤ (m : Int) := by omega
     have s2 : (m : Int) < (n : Int) := by omega
     have ca := Hd.out.cell hmn
     have cb := Hd.out.cell hhn
     obtain ⟨A1, c1, e1, o1, _⟩ := Hd.out.row (m) hmn
     obtain ⟨A2, c2, e2, o2, _⟩ := Hd.out.row (h) hhn
     have hcl := scmp_any (d (m)).2 (d (h)).2 _ c1 _ c2 A1 A2 B kb kn kc KA ks wr.drew rfl rfl (o1.rd.below (Below.refl _ _).drew) (o2.rd.below (Below.refl _ _).drew) ((HK.out.keeps Hk.out).below (Below.refl _ _).drew) hkn
     have hle := cmp_leK ks (d (m)) (d (h)) (Hix.out h m (by omega) (by omega) (by omega) (by have := Hmb.out; omega))
     rw [e1] at ca
     rw [e2] at cb
     generalize cmpR ks (d (m)).2 (d (h)).2 = R at *
     generalize (d (m)).2.length = l1 at *
     generalize (d (h)).2.length = l2 at *
     have Hcl := Lib.hid hcl
     have Hle := Lib.hid hle
     have cad : wr.drew.cell? ⟨g, m, none⟩ = some (.slice A1 l1 c1) := ca
     have cbd : wr.drew.cell? ⟨g, h, none⟩ = some (.slice A2 l2 c2) := cb
     clear hcl hle e1 e2 o1 o2
     go_wp2_with fail
     go_region_held3 (fun w' => w'.cell? ⟨g, m, none⟩ = some (.slice A1 l1 c1) ∧ w'.cell? ⟨g, h, none⟩ = some (.slice A2 l2 c2))
      (first | assumption | exact ⟨ca, cb⟩ | exact ⟨cad, cbd⟩ | exact ⟨ca3, cb3⟩)
      (first | (go_at_call 55; refine Hcl.out.mono ?_; rintro e w3 ⟨rfl, hb3⟩; have ca3 := cell_keep hb3 cad; have cb3 := cell_keep hb3 cbd))
     have hb3' : Below wr.heap.size wr w3 := (Below.refl _ _).drew.trans hb3
     have Hd3 := Lib.hid (Hd.out.below hb3')
     have Hk3 := Lib.hid (Hk.out.then_below hb3')
     clear hb3 hb3' Hcl Hk ca cb cad cbd Hd ca3 cb3
     clear s1 s2 t1 t2
     by_cases hneg : R < 0
     ·have hb0 : decide (R < 0) = true := decide_eq_true hneg
      rw [hb0]
      have hst := Lib.hid (Sq.Plb.left (leK_ordr ks) Hpl.out Hs1.out hh1 hh2 (Hle.out.1 hneg))
      go_wp2_with fail
      go_roundw
      case rel => exact ⟨i, h, rfl, by go_num, by omega, by omega, hai, hst.out, Hd3.out, Hk3.out⟩
      case measure => simp [intOf]; omega
     ·have hb0 : decide (R < 0) = false := decide_eq_false hneg
      rw [hb0]
      have hst := Lib.hid (Sq.Plb.right (leK_ordr ks) Hpl.out Hs1.out hh1 hh2 (Classical.byContradiction fun h => hneg (Hle.out.2 h)))
      go_wp2_with fail
      go_roundw
      case rel => exact ⟨h + 1, j, by go_num, rfl, by omega, by omega, by omega, hst.out, Hd3.out, Hk3.out⟩
      case measure => simp [intOf]; omega
    ·skip
     obtain rfl : i = j := by omega
     have hfin := Lib.hid (Sq.Plb.fin (leK_ordr ks) Hpl.out Hs1.out)
     clear Hpl
     go_wp2_with fail
     go_loopw [17] (fun vk wr => ∃ k : Nat, i ≤ k ∧ k ≤ m ∧ vk = .int .i64 k ∧ Hid (Dat wr B g n (Sq.dnTo d m k)) ∧ Hid (Keeps [23] B w wr)) (fun k _ => (intOf k).toNat)
     case atStart => exact ⟨m, by omega, by omega, rfl, by rw [Sq.dnTo_zero]; exact Hd.out, Hk.out⟩
     case round =>
      clear Hd Hk
      obtain ⟨k, hk1, hk2, rfl, Hd, Hk⟩ := hrel
      by_cases hkl : i < k
      ·skip
       obtain ⟨q, rfl⟩ : ∃ q, k = q + 1 := ⟨k - 1, by omega⟩
       have hx : q + 1 < n := by omega
       have hy : q < n := by omega
       have s1 : (0 : Int) ≤ (q : Int) := by omega
       have s2 : (q : Int) < (n : Int) := by omega
       have s3 : (0 : Int) ≤ (q : Int) + 1 := by omega
       have s4 : (q : Int) + 1 < (n : Int) := by omega
       have s5 : IntKind.i64.wrap ((q : Int) + 1 - 1) = (q : Int) := by rw [IntKind.wrap_i64]; omega
       have s5' : IntKind.i64.wrap (q : Int) = (q : Int) := by rw [IntKind.wrap_i64]; omega
       have s6 : ((q : Int) + 1).toNat = q + 1 := by omega
       have s7 : (i : Int) < (q : Int) + 1 := by omega
       have s8 : (q : Int) + 1 - 1 = (q : Int) := by omega
       have ca := Hd.out.cell hx
       have cb := Hd.out.cell hy
       have fa := Hd.out.blk.frozen (q + 1)
       have fb := Hd.out.blk.frozen (q)
       have hsw := Hd.out.swap hx hy
       obtain ⟨A1, c1, e1, _⟩ := Hd.out.row (q + 1) hx
       obtain ⟨A2, c2, e2, _⟩ := Hd.out.row (q) hy
       rw [e1, e2] at hsw
       rw [e1] at ca
       rw [e2] at cb
       generalize (Sq.dnTo d m (q + 1) (q + 1)).2.length = l1 at *
       generalize (Sq.dnTo d m (q + 1) (q)).2.length = l2 at *
       rw [Sq.dnTo_succ d hk2] at hsw
       have Hsw := Lib.hid hsw
       clear hsw e1 e2 Hd
       go_wp2_with fail
       go_region
       go_wp2_with fail
       go_roundw
       case rel => exact ⟨q, by omega, by omega, by go_num, Hsw.out.1.below (Below.refl _ _).drew, (Hk.out.trans Hsw.out.2).then_below (Below.refl _ _).drew⟩
       case measure => simp [intOf]
      ·skip
       have hke : k = i := by omega
       rw [← hke] at hfin
       have s7 : ¬ (i : Int) < (k : Int) := by omega
       clear hke
       go_wp2_with fail
       (try simp only [Exit.inBlock, Exit.then]); refine bodyPost_ret (results_none rfl _ _ _) rfl ?_
       have hf := hfin.out
       rw [Hmb.out] at hf
       first | exact ⟨_, rfl, Hd.out, hf.1, hf.2, Hk.out⟩ | exact ⟨rfl, _, Hd.out, hf.1, hf.2, Hk.out⟩
  ·have w4 : ((m : Int) - (a : Int) == 1) = false := by rw [beq_eq_false_iff_ne]; omega
   have w5 : ((b : Int) - (m : Int) == 1) = false := by rw [beq_eq_false_iff_ne]; omega
   obtain ⟨md, hmd, g1, g2'⟩ : ∃ md : Nat, ((a : Int) + (b : Int)) / 2 = (md : Int) ∧ 2 * md ≤ a + b ∧ a + b ≤ 2 * md + 1 := ⟨(a + b) / 2, by omega, by omega, by omega⟩
   have f1 : a < md := by omega
   have f2 : md < b := by omega
   by_cases hgt : md < m
   ·skip
    go_enter Tryz.func90, Tryz.ntmps90
    go_wp2_with fail
    have hsr := Lib.hid (Sq.Srch.start (leK ks) d a m b md (s0 := (md + m - b)) (r0 := md) (by omega))
    go_loopw [20, 21] (fun vi vj wr => ∃ i j : Nat, vi = .int .i64 i ∧ vj = .int .i64 j ∧ i ≤ j ∧ j ≤ md ∧ (md + m - b) ≤ i ∧ Hid (Sq.Srch (leK ks) d a m b md ((md + m - b)) (md) i j) ∧ Hid (Dat wr B g n d) ∧ Hid (Keeps [23] B w wr)) (fun i j _ => (intOf j).toNat - (intOf i).toNat)
    case atStart => exact ⟨(md + m - b), md, by go_num, by go_num, by omega, by omega, by omega, hsr.out, H.out, Keeps.refl _ _ _⟩
    case round =>
     obtain ⟨i, j, rfl, rfl, hij, hjb, hai, Hpl, Hd, Hk⟩ := hrel
     by_cases hlt : i < j
     ·skip
      obtain ⟨h, hh, hh1, hh2⟩ : ∃ h : Nat, ((i : Int) + (j : Int)) / 2 = (h : Int) ∧ i ≤ h ∧ h < j := ⟨(i + j) / 2, by omega, by omega, by omega⟩
      have hhn : h < n := by omega
      have t1 : (0 : Int) ≤ (h : Int) := by omega
      have t2 : (h : Int) < (n : Int) := by omega
      obtain ⟨x, hx, hx2, hxn⟩ : ∃ x : Nat, (md : Int) + (m : Int) - 1 - (h : Int) = (x : Int) ∧ x = md + m - 1 - h ∧ x < n := ⟨md + m - 1 - h, by omega, rfl, by omega⟩
      have s1 : (0 : Int) ≤ (x : Int) := by omega
      have s2 : (x : Int) < (n : Int) := by omega
      have s3 : IntKind.i64.wrap (x : Int) = (x : Int) := by rw [IntKind.wrap_i64]; omega
      have s4 : IntKind.i64.wrap ((md : Int) + (m : Int) - 1 - (h : Int)) = (x : Int) := by rw [IntKind.wrap_i64]; omega
      have Hx2 := Lib.hid hx2
      have hxm : m ≤ x := by omega
      have hxb : x < b := by omega
      clear hx2
      have ca := Hd.out.cell hxn
      have cb := Hd.out.cell hhn
      obtain ⟨A1, c1, e1, o1, _⟩ := Hd.out.row (x) hxn
      obtain ⟨A2, c2, e2, o2, _⟩ := Hd.out.row (h) hhn
      have hcl := scmp_any (d (x)).2 (d (h)).2 _ c1 _ c2 A1 A2 B kb kn kc KA ks wr.drew rfl rfl (o1.rd.below (Below.refl _ _).drew) (o2.rd.below (Below.refl _ _).drew) ((HK.out.keeps Hk.out).below (Below.refl _ _).drew) hkn
      have hle := cmp_leK ks (d (x)) (d (h)) (Hix.out h x (by omega) (by omega) (by omega) (by omega))
      rw [e1] at ca
      rw [e2] at cb
      generalize cmpR ks (d (x)).2 (d (h)).2 = R at *
      generalize (d (x)).2.length = l1 at *
      generalize (d (h)).2.length = l2 at *
      have Hcl := Lib.hid hcl
      have Hle := Lib.hid hle
      have cad : wr.drew.cell? ⟨g, x, none⟩ = some (.slice A1 l1 c1) := ca
      have cbd : wr.drew.cell? ⟨g, h, none⟩ = some (.slice A2 l2 c2) := cb
      clear hcl hle e1 e2 o1 o2
      go_wp2_with fail
      go_region_held3 (fun w' => w'.cell? ⟨g, x, none⟩ = some (.slice A1 l1 c1) ∧ w'.cell? ⟨g, h, none⟩ = some (.slice A2 l2 c2))
       (first | assumption | exact ⟨ca, cb⟩ | exact ⟨cad, cbd⟩ | exact ⟨ca3, cb3⟩)
       (first | (go_at_call 55; refine Hcl.out.mono ?_; rintro e w3 ⟨rfl, hb3⟩; have ca3 := cell_keep hb3 cad; have cb3 := cell_keep hb3 cbd))
      have hb3' : Below wr.heap.size wr w3 := (Below.refl _ _).drew.trans hb3
      have Hd3 := Lib.hid (Hd.out.below hb3')
      have Hk3 := Lib.hid (Hk.out.then_below hb3')
      clear hb3 hb3' Hcl Hk ca cb cad cbd Hd ca3 cb3
      clear s1 s2 s3 s4 t1 t2 hx
      by_cases hneg : R < 0
      ·have hb0 : decide (R < 0) = true := decide_eq_true hneg
       rw [hb0]
       have hst : Hid (Sq.Srch (leK ks) d a m b md ((md + m - b)) (md) i h) := Sq.Srch.down Hpl.out hh1 hh2 (by rw [← Hx2.out]; exact Hle.out.1 hneg)
       go_wp2_with fail
       go_roundw
       case rel => exact ⟨i, h, rfl, by go_num, by omega, by omega, by omega, hst.out, Hd3.out, Hk3.out⟩
       case measure => simp [intOf]; omega
      ·have hb0 : decide (R < 0) = false := decide_eq_false hneg
       rw [hb0]
       have hst : Hid (Sq.Srch (leK ks) d a m b md ((md + m - b)) (md) (h + 1) j) := Sq.Srch.up Hpl.out hh1 hh2 (by rw [← Hx2.out]; exact Classical.byContradiction fun h => hneg (Hle.out.2 h))
       go_wp2_with fail
       go_roundw
       case rel => exact ⟨h + 1, j, by go_num, rfl, by omega, by omega, by omega, hst.out, Hd3.out, Hk3.out⟩
       case measure => simp [intOf]; omega
     ·skip
      obtain ⟨s, rfl⟩ : ∃ s, s = i := ⟨_, rfl⟩
      obtain rfl : s = j := by omega
      have hct := Sq.Srch.cut (leK_ordr ks) Hpl.out (by omega) (by omega) (by omega) (by omega) (.inl ⟨by omega, rfl, rfl, by omega, by omega⟩)
      obtain ⟨e, hE, hEe⟩ : ∃ e : Nat, (md : Int) + (m : Int) - (s : Int) = (e : Int) ∧ md + m - s = e := ⟨md + m - s, by have := hct.lo'; omega, rfl⟩
      have k1 := hct.lo
      have k2 := hct.hi
      have k3 := hct.lo'
      have k4 := hct.hi'
      have k5 := hct.smid
      have HEe := Lib.hid hEe
      clear Hpl
      by_cases bp : s < m
      ·skip
       have u1 : (s : Int) < (m : Int) := by omega
       have u2 : (md : Int) < (e : Int) := by omega
       by_cases bq : s < md
       ·skip
        have u3 : (s : Int) < (md : Int) := by omega
        have u4 : (m : Int) < (e : Int) := by omega
        by_cases bl : a < s
        ·skip
         have u5 : (a : Int) < (s : Int) := by omega
         by_cases bt : e < b
         ·skip
          have u6 : (e : Int) < (b : Int) := by omega
          ·skip
           have Hct := Lib.hid hct
           have Hsr := Lib.hid (hct.srts Hs1.out Hs2.out)
           have Hsx := Lib.hid (hct.ixs (fun x y => Hr.ix x < Hr.ix y) Hix.out)
           rw [hEe] at Hsr Hsx
           clear hct
           go_wp2_with fail
           refine (rotate_c (.func (Fn.func 55) #[] #[.pointer (some ⟨kb, 0, none⟩)]) B g n c d s m e wr Hd.out hn hnc (by omega) (by omega) (by omega)).mono ?_
           rintro ee w5 ⟨rfl, hd5, hk5⟩
           have Hd5 := Lib.hid hd5
           have Hk5 := Lib.hid (Hk.out.trans hk5)
           clear hd5 hk5 Hd Hk
           go_wp2_with fail
           refine (Ih.out (Sq.rot d s m e) a s md w5 (by omega) (by omega) (by omega) (by omega) Hd5.out (HK.out.keeps Hk5.out) Hsr.out.1 Hsr.out.2.1 Hsx.out.1).mono ?_
           rintro ee w6 ⟨d6, rfl, hd6, hsub6, hsrt6, hk6⟩
           have Hd6 := Lib.hid hd6
           have Hk6 := Lib.hid (Hk5.out.trans hk6)
           have Hsub6 := Lib.hid hsub6
           have Hsrt6 := Lib.hid hsrt6
           clear hd6 hk6 hsub6 hsrt6 Hd5 Hk5
           have Hr1 : Hid (Sq.Srt (leK ks) d6 md e) := Hsr.out.2.2.1.of_eq fun x h1 h2 => Hsub6.out.out x (.inr h1)
           have Hr2 : Hid (Sq.Srt (leK ks) d6 e b) := Hsr.out.2.2.2.of_eq fun x h1 h2 => Hsub6.out.out x (.inr (by omega))
           go_wp2_with fail
           refine (Ih.out d6 md e b w6 (by omega) (by omega) (by omega) (by omega) Hd6.out (HK.out.keeps Hk6.out) Hr1.out Hr2.out (fun i j i1 i2 j1 j2 => by rw [Hsub6.out.out i (.inr i1), Hsub6.out.out j (.inr (by omega))]; exact Hsx.out.2 i j i1 i2 j1 j2)).mono ?_
           rintro ee w7 ⟨d7, rfl, hd7, hsub7, hsrt7, hk7⟩
           have hfin := Hct.out.fin (leK_ordr ks) Hs1.out Hs2.out (by omega) (by rw [hEe]; exact Hsub6.out) Hsrt6.out hsub7 hsrt7
           have Hfin := Lib.hid hfin
           have Hd7 := Lib.hid hd7
           have Hk7 := Lib.hid (Hk6.out.trans hk7)
           clear hd7 hk7 hsub7 hsrt7 hfin
           go_wp2_with fail
           all_goals (go_end0; first | exact ⟨d7, rfl, Hd7.out, Hfin.out.1, Hfin.out.2, Hk7.out⟩ | exact ⟨rfl, d7, Hd7.out, Hfin.out.1, Hfin.out.2, Hk7.out⟩)
         ·skip
          have u6 : ¬ (e : Int) < (b : Int) := by omega
          ·skip
           have Hct := Lib.hid hct
           have Hsr := Lib.hid (hct.srts Hs1.out Hs2.out)
           have Hsx := Lib.hid (hct.ixs (fun x y => Hr.ix x < Hr.ix y) Hix.out)
           rw [hEe] at Hsr Hsx
           clear hct
           go_wp2_with fail
           refine (rotate_c (.func (Fn.func 55) #[] #[.pointer (some ⟨kb, 0, none⟩)]) B g n c d s m e wr Hd.out hn hnc (by omega) (by omega) (by omega)).mono ?_
           rintro ee w5 ⟨rfl, hd5, hk5⟩
           have Hd5 := Lib.hid hd5
           have Hk5 := Lib.hid (Hk.out.trans hk5)
           clear hd5 hk5 Hd Hk
           go_wp2_with fail
           refine (Ih.out (Sq.rot d s m e) a s md w5 (by omega) (by omega) (by omega) (by omega) Hd5.out (HK.out.keeps Hk5.out) Hsr.out.1 Hsr.out.2.1 Hsx.out.1).mono ?_
           rintro ee w6 ⟨d6, rfl, hd6, hsub6, hsrt6, hk6⟩
           have Hd6 := Lib.hid hd6
           have Hk6 := Lib.hid (Hk5.out.trans hk6)
           have Hsub6 := Lib.hid hsub6
           have Hsrt6 := Lib.hid hsrt6
           clear hd6 hk6 hsub6 hsrt6 Hd5 Hk5
           have Hr1 : Hid (Sq.Srt (leK ks) d6 md e) := Hsr.out.2.2.1.of_eq fun x h1 h2 => Hsub6.out.out x (.inr h1)
           have Hr2 : Hid (Sq.Srt (leK ks) d6 e b) := Hsr.out.2.2.2.of_eq fun x h1 h2 => Hsub6.out.out x (.inr (by omega))
           have hfin := Hct.out.fin (leK_ordr ks) Hs1.out Hs2.out (by omega) (by rw [hEe]; exact Hsub6.out) Hsrt6.out (Sq.Sub.refl d6 md b) (fun x y h1 h2 h3 => Hr1.out x y h1 h2 (by omega))
           have Hfin := Lib.hid hfin
           clear hfin
           go_wp2_with fail
           all_goals (go_end0; first | exact ⟨_, rfl, Hd6.out, Hfin.out.1, Hfin.out.2, Hk6.out⟩ | exact ⟨rfl, _, Hd6.out, Hfin.out.1, Hfin.out.2, Hk6.out⟩)
        ·skip
         have u5 : ¬ (a : Int) < (s : Int) := by omega
         by_cases bt : e < b
         ·skip
          have u6 : (e : Int) < (b : Int) := by omega
          ·skip
           have Hct := Lib.hid hct
           have Hsr := Lib.hid (hct.srts Hs1.out Hs2.out)
           have Hsx := Lib.hid (hct.ixs (fun x y => Hr.ix x < Hr.ix y) Hix.out)
           rw [hEe] at Hsr Hsx
           clear hct
           go_wp2_with fail
           refine (rotate_c (.func (Fn.func 55) #[] #[.pointer (some ⟨kb, 0, none⟩)]) B g n c d s m e wr Hd.out hn hnc (by omega) (by omega) (by omega)).mono ?_
           rintro ee w5 ⟨rfl, hd5, hk5⟩
           have Hd5 := Lib.hid hd5
           have Hk5 := Lib.hid (Hk.out.trans hk5)
           clear hd5 hk5 Hd Hk
           have Hsrt6 : Hid (Sq.Srt (leK ks) (Sq.rot d s m e) a md) := fun x y h1 h2 h3 => Hsr.out.2.1 x y (by omega) h2 h3
           have Hsub6 := Lib.hid (Sq.Sub.refl (Sq.rot d s m e) a md)
           have Hd6 := Lib.hid Hd5.out
           have Hk6 := Lib.hid Hk5.out
           clear Hd5 Hk5
           obtain ⟨w6, rfl⟩ : ∃ x : World, x = w5 := ⟨_, rfl⟩
           obtain ⟨d6, hd6⟩ : ∃ x : Nat → Hr, x = Sq.rot d s m e := ⟨_, rfl⟩
           have Hd6e := Lib.hid hd6
           clear hd6
           have Hr1 : Hid (Sq.Srt (leK ks) (Sq.rot d s m e) md e) := Hsr.out.2.2.1.of_eq fun x h1 h2 => Hsub6.out.out x (.inr h1)
           have Hr2 : Hid (Sq.Srt (leK ks) (Sq.rot d s m e) e b) := Hsr.out.2.2.2.of_eq fun x h1 h2 => Hsub6.out.out x (.inr (by omega))
           go_wp2_with fail
           refine (Ih.out (Sq.rot d s m e) md e b w6 (by omega) (by omega) (by omega) (by omega) Hd6.out (HK.out.keeps Hk6.out) Hr1.out Hr2.out (fun i j i1 i2 j1 j2 => by rw [Hsub6.out.out i (.inr i1), Hsub6.out.out j (.inr (by omega))]; exact Hsx.out.2 i j i1 i2 j1 j2)).mono ?_
           rintro ee w7 ⟨d7, rfl, hd7, hsub7, hsrt7, hk7⟩
           have hfin := Hct.out.fin (leK_ordr ks) Hs1.out Hs2.out (by omega) (by rw [hEe]; exact Hsub6.out) Hsrt6.out hsub7 hsrt7
           have Hfin := Lib.hid hfin
           have Hd7 := Lib.hid hd7
           have Hk7 := Lib.hid (Hk6.out.trans hk7)
           clear hd7 hk7 hsub7 hsrt7 hfin
           go_wp2_with fail
           all_goals (go_end0; first | exact ⟨d7, rfl, Hd7.out, Hfin.out.1, Hfin.out.2, Hk7.out⟩ | exact ⟨rfl, d7, Hd7.out, Hfin.out.1, Hfin.out.2, Hk7.out⟩)
         ·skip
          have u6 : ¬ (e : Int) < (b : Int) := by omega
          ·skip
           have Hct := Lib.hid hct
           have Hsr := Lib.hid (hct.srts Hs1.out Hs2.out)
           have Hsx := Lib.hid (hct.ixs (fun x y => Hr.ix x < Hr.ix y) Hix.out)
           rw [hEe] at Hsr Hsx
           clear hct
           go_wp2_with fail
           refine (rotate_c (.func (Fn.func 55) #[] #[.pointer (some ⟨kb, 0, none⟩)]) B g n c d s m e wr Hd.out hn hnc (by omega) (by omega) (by omega)).mono ?_
           rintro ee w5 ⟨rfl, hd5, hk5⟩
           have Hd5 := Lib.hid hd5
           have Hk5 := Lib.hid (Hk.out.trans hk5)
           clear hd5 hk5 Hd Hk
           have Hsrt6 : Hid (Sq.Srt (leK ks) (Sq.rot d s m e) a md) := fun x y h1 h2 h3 => Hsr.out.2.1 x y (by omega) h2 h3
           have Hsub6 := Lib.hid (Sq.Sub.refl (Sq.rot d s m e) a md)
           have Hd6 := Lib.hid Hd5.out
           have Hk6 := Lib.hid Hk5.out
           clear Hd5 Hk5
           obtain ⟨w6, rfl⟩ : ∃ x : World, x = w5 := ⟨_, rfl⟩
           obtain ⟨d6, hd6⟩ : ∃ x : Nat → Hr, x = Sq.rot d s m e := ⟨_, rfl⟩
           have Hd6e := Lib.hid hd6
           clear hd6
           have Hr1 : Hid (Sq.Srt (leK ks) (Sq.rot d s m e) md e) := Hsr.out.2.2.1.of_eq fun x h1 h2 => Hsub6.out.out x (.inr h1)
           have Hr2 : Hid (Sq.Srt (leK ks) (Sq.rot d s m e) e b) := Hsr.out.2.2.2.of_eq fun x h1 h2 => Hsub6.out.out x (.inr (by omega))
           have hfin := Hct.out.fin (leK_ordr ks) Hs1.out Hs2.out (by omega) (by rw [hEe]; exact Hsub6.out) Hsrt6.out (Sq.Sub.refl (Sq.rot d s m e) md b) (fun x y h1 h2 h3 => Hr1.out x y h1 h2 (by omega))
           have Hfin := Lib.hid hfin
           clear hfin
           go_wp2_with fail
           all_goals (go_end0; first | exact ⟨_, rfl, Hd6.out, Hfin.out.1, Hfin.out.2, Hk6.out⟩ | exact ⟨rfl, _, Hd6.out, Hfin.out.1, Hfin.out.2, Hk6.out⟩)
       ·skip
        have u3 : ¬ (s : Int) < (md : Int) := by omega
        have u4 : ¬ (m : Int) < (e : Int) := by omega
        by_cases bl : a < s
        ·skip
         have u5 : (a : Int) < (s : Int) := by omega
         by_cases bt : e < b
         ·skip
          have u6 : (e : Int) < (b : Int) := by omega
          ·skip
           have Hct := Lib.hid hct
           have Hsr := Lib.hid (hct.srts Hs1.out Hs2.out)
           have Hsx := Lib.hid (hct.ixs (fun x y => Hr.ix x < Hr.ix y) Hix.out)
           rw [hEe] at Hsr Hsx
           clear hct
           have Hd5 : Hid (Dat wr B g n (Sq.rot d s m e)) := by
            show Dat wr B g n (Sq.rot d s m e)
            rw [Sq.rot_id d (by omega) (by omega) (by omega)]
            exact Hd.out
           have Hk5 := Lib.hid Hk.out
           clear Hd Hk
           obtain ⟨w5, rfl⟩ : ∃ x : World, x = wr := ⟨_, rfl⟩
           have Hsrt6 : Hid (Sq.Srt (leK ks) (Sq.rot d s m e) a md) := fun x y h1 h2 h3 => Hsr.out.1 x y h1 h2 (by omega)
           have Hsub6 := Lib.hid (Sq.Sub.refl (Sq.rot d s m e) a md)
           have Hd6 := Lib.hid Hd5.out
           have Hk6 := Lib.hid Hk5.out
           clear Hd5 Hk5
           obtain ⟨w6, rfl⟩ : ∃ x : World, x = w5 := ⟨_, rfl⟩
           obtain ⟨d6, hd6⟩ : ∃ x : Nat → Hr, x = Sq.rot d s m e := ⟨_, rfl⟩
           have Hd6e := Lib.hid hd6
           clear hd6
           have Hr1 : Hid (Sq.Srt (leK ks) (Sq.rot d s m e) md e) := Hsr.out.2.2.1.of_eq fun x h1 h2 => Hsub6.out.out x (.inr h1)
           have Hr2 : Hid (Sq.Srt (leK ks) (Sq.rot d s m e) e b) := Hsr.out.2.2.2.of_eq fun x h1 h2 => Hsub6.out.out x (.inr (by omega))
           go_wp2_with fail
           refine (Ih.out (Sq.rot d s m e) md e b w6 (by omega) (by omega) (by omega) (by omega) Hd6.out (HK.out.keeps Hk6.out) Hr1.out Hr2.out (fun i j i1 i2 j1 j2 => by rw [Hsub6.out.out i (.inr i1), Hsub6.out.out j (.inr (by omega))]; exact Hsx.out.2 i j i1 i2 j1 j2)).mono ?_
           rintro ee w7 ⟨d7, rfl, hd7, hsub7, hsrt7, hk7⟩
           have hfin := Hct.out.fin (leK_ordr ks) Hs1.out Hs2.out (by omega) (by rw [hEe]; exact Hsub6.out) Hsrt6.out hsub7 hsrt7
           have Hfin := Lib.hid hfin
           have Hd7 := Lib.hid hd7
           have Hk7 := Lib.hid (Hk6.out.trans hk7)
           clear hd7 hk7 hsub7 hsrt7 hfin
           go_wp2_with fail
           all_goals (go_end0; first | exact ⟨d7, rfl, Hd7.out, Hfin.out.1, Hfin.out.2, Hk7.out⟩ | exact ⟨rfl, d7, Hd7.out, Hfin.out.1, Hfin.out.2, Hk7.out⟩)
         ·skip
          have u6 : ¬ (e : Int) < (b : Int) := by omega
          ·skip
           have Hct := Lib.hid hct
           have Hsr := Lib.hid (hct.srts Hs1.out Hs2.out)
           have Hsx := Lib.hid (hct.ixs (fun x y => Hr.ix x < Hr.ix y) Hix.out)
           rw [hEe] at Hsr Hsx
           clear hct
           have Hd5 : Hid (Dat wr B g n (Sq.rot d s m e)) := by
            show Dat wr B g n (Sq.rot d s m e)
            rw [Sq.rot_id d (by omega) (by omega) (by omega)]
            exact Hd.out
           have Hk5 := Lib.hid Hk.out
           clear Hd Hk
           obtain ⟨w5, rfl⟩ : ∃ x : World, x = wr := ⟨_, rfl⟩
           have Hsrt6 : Hid (Sq.Srt (leK ks) (Sq.rot d s m e) a md) := fun x y h1 h2 h3 => Hsr.out.1 x y h1 h2 (by omega)
           have Hsub6 := Lib.hid (Sq.Sub.refl (Sq.rot d s m e) a md)
           have Hd6 := Lib.hid Hd5.out
           have Hk6 := Lib.hid Hk5.out
           clear Hd5 Hk5
           obtain ⟨w6, rfl⟩ : ∃ x : World, x = w5 := ⟨_, rfl⟩
           obtain ⟨d6, hd6⟩ : ∃ x : Nat → Hr, x = Sq.rot d s m e := ⟨_, rfl⟩
           have Hd6e := Lib.hid hd6
           clear hd6
           have Hr1 : Hid (Sq.Srt (leK ks) (Sq.rot d s m e) md e) := Hsr.out.2.2.1.of_eq fun x h1 h2 => Hsub6.out.out x (.inr h1)
           have Hr2 : Hid (Sq.Srt (leK ks) (Sq.rot d s m e) e b) := Hsr.out.2.2.2.of_eq fun x h1 h2 => Hsub6.out.out x (.inr (by omega))
           have hfin := Hct.out.fin (leK_ordr ks) Hs1.out Hs2.out (by omega) (by rw [hEe]; exact Hsub6.out) Hsrt6.out (Sq.Sub.refl (Sq.rot d s m e) md b) (fun x y h1 h2 h3 => Hr1.out x y h1 h2 (by omega))
           have Hfin := Lib.hid hfin
           clear hfin
           go_wp2_with fail
           all_goals (go_end0; first | exact ⟨_, rfl, Hd6.out, Hfin.out.1, Hfin.out.2, Hk6.out⟩ | exact ⟨rfl, _, Hd6.out, Hfin.out.1, Hfin.out.2, Hk6.out⟩)
        ·skip
         have u5 : ¬ (a : Int) < (s : Int) := by omega
         by_cases bt : e < b
         ·skip
          have u6 : (e : Int) < (b : Int) := by omega
          ·skip
           have Hct := Lib.hid hct
           have Hsr := Lib.hid (hct.srts Hs1.out Hs2.out)
           have Hsx := Lib.hid (hct.ixs (fun x y => Hr.ix x < Hr.ix y) Hix.out)
           rw [hEe] at Hsr Hsx
           clear hct
           have Hd5 : Hid (Dat wr B g n (Sq.rot d s m e)) := by
            show Dat wr B g n (Sq.rot d s m e)
            rw [Sq.rot_id d (by omega) (by omega) (by omega)]
            exact Hd.out
           have Hk5 := Lib.hid Hk.out
           clear Hd Hk
           obtain ⟨w5, rfl⟩ : ∃ x : World, x = wr := ⟨_, rfl⟩
           have Hsrt6 : Hid (Sq.Srt (leK ks) (Sq.rot d s m e) a md) := fun x y h1 h2 h3 => Hsr.out.2.1 x y (by omega) h2 h3
           have Hsub6 := Lib.hid (Sq.Sub.refl (Sq.rot d s m e) a md)
           have Hd6 := Lib.hid Hd5.out
           have Hk6 := Lib.hid Hk5.out
           clear Hd5 Hk5
           obtain ⟨w6, rfl⟩ : ∃ x : World, x = w5 := ⟨_, rfl⟩
           obtain ⟨d6, hd6⟩ : ∃ x : Nat → Hr, x = Sq.rot d s m e := ⟨_, rfl⟩
           have Hd6e := Lib.hid hd6
           clear hd6
           have Hr1 : Hid (Sq.Srt (leK ks) (Sq.rot d s m e) md e) := Hsr.out.2.2.1.of_eq fun x h1 h2 => Hsub6.out.out x (.inr h1)
           have Hr2 : Hid (Sq.Srt (leK ks) (Sq.rot d s m e) e b) := Hsr.out.2.2.2.of_eq fun x h1 h2 => Hsub6.out.out x (.inr (by omega))
           go_wp2_with fail
           refine (Ih.out (Sq.rot d s m e) md e b w6 (by omega) (by omega) (by omega) (by omega) Hd6.out (HK.out.keeps Hk6.out) Hr1.out Hr2.out (fun i j i1 i2 j1 j2 => by rw [Hsub6.out.out i (.inr i1), Hsub6.out.out j (.inr (by omega))]; exact Hsx.out.2 i j i1 i2 j1 j2)).mono ?_
           rintro ee w7 ⟨d7, rfl, hd7, hsub7, hsrt7, hk7⟩
           have hfin := Hct.out.fin (leK_ordr ks) Hs1.out Hs2.out (by omega) (by rw [hEe]; exact Hsub6.out) Hsrt6.out hsub7 hsrt7
           have Hfin := Lib.hid hfin
           have Hd7 := Lib.hid hd7
           have Hk7 := Lib.hid (Hk6.out.trans hk7)
           clear hd7 hk7 hsub7 hsrt7 hfin
           go_wp2_with fail
           all_goals (go_end0; first | exact ⟨d7, rfl, Hd7.out, Hfin.out.1, Hfin.out.2, Hk7.out⟩ | exact ⟨rfl, d7, Hd7.out, Hfin.out.1, Hfin.out.2, Hk7.out⟩)
         ·skip
          have u6 : ¬ (e : Int) < (b : Int) := by omega
          ·skip
           have Hct := Lib.hid hct
           have Hsr := Lib.hid (hct.srts Hs1.out Hs2.out)
           have Hsx := Lib.hid (hct.ixs (fun x y => Hr.ix x < Hr.ix y) Hix.out)
           rw [hEe] at Hsr Hsx
           clear hct
           have Hd5 : Hid (Dat wr B g n (Sq.rot d s m e)) := by
            show Dat wr B g n (Sq.rot d s m e)
            rw [Sq.rot_id d (by omega) (by omega) (by omega)]
            exact Hd.out
           have Hk5 := Lib.hid Hk.out
           clear Hd Hk
           obtain ⟨w5, rfl⟩ : ∃ x : World, x = wr := ⟨_, rfl⟩
           have Hsrt6 : Hid (Sq.Srt (leK ks) (Sq.rot d s m e) a md) := fun x y h1 h2 h3 => Hsr.out.2.1 x y (by omega) h2 h3
           have Hsub6 := Lib.hid (Sq.Sub.refl (Sq.rot d s m e) a md)
           have Hd6 := Lib.hid Hd5.out
           have Hk6 := Lib.hid Hk5.out
           clear Hd5 Hk5
           obtain ⟨w6, rfl⟩ : ∃ x : World, x = w5 := ⟨_, rfl⟩
           obtain ⟨d6, hd6⟩ : ∃ x : Nat → Hr, x = Sq.rot d s m e := ⟨_, rfl⟩
           have Hd6e := Lib.hid hd6
           clear hd6
           have Hr1 : Hid (Sq.Srt (leK ks) (Sq.rot d s m e) md e) := Hsr.out.2.2.1.of_eq fun x h1 h2 => Hsub6.out.out x (.inr h1)
           have Hr2 : Hid (Sq.Srt (leK ks) (Sq.rot d s m e) e b) := Hsr.out.2.2.2.of_eq fun x h1 h2 => Hsub6.out.out x (.inr (by omega))
           have hfin := Hct.out.fin (leK_ordr ks) Hs1.out Hs2.out (by omega) (by rw [hEe]; exact Hsub6.out) Hsrt6.out (Sq.Sub.refl (Sq.rot d s m e) md b) (fun x y h1 h2 h3 => Hr1.out x y h1 h2 (by omega))
           have Hfin := Lib.hid hfin
           clear hfin
           go_wp2_with fail
           all_goals (go_end0; first | exact ⟨_, rfl, Hd6.out, Hfin.out.1, Hfin.out.2, Hk6.out⟩ | exact ⟨rfl, _, Hd6.out, Hfin.out.1, Hfin.out.2, Hk6.out⟩)
      ·skip
       have u1 : ¬ (s : Int) < (m : Int) := by omega
       have u2 : ¬ (md : Int) < (e : Int) := by omega
       by_cases bq : s < md
       ·skip
        have u3 : (s : Int) < (md : Int) := by omega
        have u4 : (m : Int) < (e : Int) := by omega
        by_cases bl : a < s
        ·skip
         have u5 : (a : Int) < (s : Int) := by omega
         by_cases bt : e < b
         ·skip
          have u6 : (e : Int) < (b : Int) := by omega
          ·skip
           have Hct := Lib.hid hct
           have Hsr := Lib.hid (hct.srts Hs1.out Hs2.out)
           have Hsx := Lib.hid (hct.ixs (fun x y => Hr.ix x < Hr.ix y) Hix.out)
           rw [hEe] at Hsr Hsx
           clear hct
           have Hd5 : Hid (Dat wr B g n (Sq.rot d s m e)) := by
            show Dat wr B g n (Sq.rot d s m e)
            rw [Sq.rot_id d (by omega) (by omega) (by omega)]
            exact Hd.out
           have Hk5 := Lib.hid Hk.out
           clear Hd Hk
           obtain ⟨w5, rfl⟩ : ∃ x : World, x = wr := ⟨_, rfl⟩
           go_wp2_with fail
           refine (Ih.out (Sq.rot d s m e) a s md w5 (by omega) (by omega) (by omega) (by omega) Hd5.out (HK.out.keeps Hk5.out) Hsr.out.1 Hsr.out.2.1 Hsx.out.1).mono ?_
           rintro ee w6 ⟨d6, rfl, hd6, hsub6, hsrt6, hk6⟩
           have Hd6 := Lib.hid hd6
           have Hk6 := Lib.hid (Hk5.out.trans hk6)
           have Hsub6 := Lib.hid hsub6
           have Hsrt6 := Lib.hid hsrt6
           clear hd6 hk6 hsub6 hsrt6 Hd5 Hk5
           have Hr1 : Hid (Sq.Srt (leK ks) d6 md e) := Hsr.out.2.2.1.of_eq fun x h1 h2 => Hsub6.out.out x (.inr h1)
           have Hr2 : Hid (Sq.Srt (leK ks) d6 e b) := Hsr.out.2.2.2.of_eq fun x h1 h2 => Hsub6.out.out x (.inr (by omega))
           have hfin := Hct.out.fin (leK_ordr ks) Hs1.out Hs2.out (by omega) (by rw [hEe]; exact Hsub6.out) Hsrt6.out (Sq.Sub.refl d6 md b) (fun x y h1 h2 h3 => Hr2.out x y (by omega) h2 h3)
           have Hfin := Lib.hid hfin
           clear hfin
           go_wp2_with fail
           all_goals (go_end0; first | exact ⟨_, rfl, Hd6.out, Hfin.out.1, Hfin.out.2, Hk6.out⟩ | exact ⟨rfl, _, Hd6.out, Hfin.out.1, Hfin.out.2, Hk6.out⟩)
         ·skip
          have u6 : ¬ (e : Int) < (b : Int) := by omega
          ·skip
           have Hct := Lib.hid hct
           have Hsr := Lib.hid (hct.srts Hs1.out Hs2.out)
           have Hsx := Lib.hid (hct.ixs (fun x y => Hr.ix x < Hr.ix y) Hix.out)
           rw [hEe] at Hsr Hsx
           clear hct
           have Hd5 : Hid (Dat wr B g n (Sq.rot d s m e)) := by
            show Dat wr B g n (Sq.rot d s m e)
            rw [Sq.rot_id d (by omega) (by omega) (by omega)]
            exact Hd.out
           have Hk5 := Lib.hid Hk.out
           clear Hd Hk
           obtain ⟨w5, rfl⟩ : ∃ x : World, x = wr := ⟨_, rfl⟩
           go_wp2_with fail
           refine (Ih.out (Sq.rot d s m e) a s md w5 (by omega) (by omega) (by omega) (by omega) Hd5.out (HK.out.keeps Hk5.out) Hsr.out.1 Hsr.out.2.1 Hsx.out.1).mono ?_
           rintro ee w6 ⟨d6, rfl, hd6, hsub6, hsrt6, hk6⟩
           have Hd6 := Lib.hid hd6
           have Hk6 := Lib.hid (Hk5.out.trans hk6)
           have Hsub6 := Lib.hid hsub6
           have Hsrt6 := Lib.hid hsrt6
           clear hd6 hk6 hsub6 hsrt6 Hd5 Hk5
           have Hr1 : Hid (Sq.Srt (leK ks) d6 md e) := Hsr.out.2.2.1.of_eq fun x h1 h2 => Hsub6.out.out x (.inr h1)
           have Hr2 : Hid (Sq.Srt (leK ks) d6 e b) := Hsr.out.2.2.2.of_eq fun x h1 h2 => Hsub6.out.out x (.inr (by omega))
           have hfin := Hct.out.fin (leK_ordr ks) Hs1.out Hs2.out (by omega) (by rw [hEe]; exact Hsub6.out) Hsrt6.out (Sq.Sub.refl d6 md b) (fun x y h1 h2 h3 => Hr2.out x y (by omega) h2 h3)
           have Hfin := Lib.hid hfin
           clear hfin
           go_wp2_with fail
           all_goals (go_end0; first | exact ⟨_, rfl, Hd6.out, Hfin.out.1, Hfin.out.2, Hk6.out⟩ | exact ⟨rfl, _, Hd6.out, Hfin.out.1, Hfin.out.2, Hk6.out⟩)
        ·skip
         have u5 : ¬ (a : Int) < (s : Int) := by omega
         by_cases bt : e < b
         ·skip
          have u6 : (e : Int) < (b : Int) := by omega
          ·skip
           have Hct := Lib.hid hct
           have Hsr := Lib.hid (hct.srts Hs1.out Hs2.out)
           have Hsx := Lib.hid (hct.ixs (fun x y => Hr.ix x < Hr.ix y) Hix.out)
           rw [hEe] at Hsr Hsx
           clear hct
           have Hd5 : Hid (Dat wr B g n (Sq.rot d s m e)) := by
            show Dat wr B g n (Sq.rot d s m e)
            rw [Sq.rot_id d (by omega) (by omega) (by omega)]
            exact Hd.out
           have Hk5 := Lib.hid Hk.out
           clear Hd Hk
           obtain ⟨w5, rfl⟩ : ∃ x : World, x = wr := ⟨_, rfl⟩
           have Hsrt6 : Hid (Sq.Srt (leK ks) (Sq.rot d s m e) a md) := fun x y h1 h2 h3 => Hsr.out.2.1 x y (by omega) h2 h3
           have Hsub6 := Lib.hid (Sq.Sub.refl (Sq.rot d s m e) a md)
           have Hd6 := Lib.hid Hd5.out
           have Hk6 := Lib.hid Hk5.out
           clear Hd5 Hk5
           obtain ⟨w6, rfl⟩ : ∃ x : World, x = w5 := ⟨_, rfl⟩
           obtain ⟨d6, hd6⟩ : ∃ x : Nat → Hr, x = Sq.rot d s m e := ⟨_, rfl⟩
           have Hd6e := Lib.hid hd6
           clear hd6
           have Hr1 : Hid (Sq.Srt (leK ks) (Sq.rot d s m e) md e) := Hsr.out.2.2.1.of_eq fun x h1 h2 => Hsub6.out.out x (.inr h1)
           have Hr2 : Hid (Sq.Srt (leK ks) (Sq.rot d s m e) e b) := Hsr.out.2.2.2.of_eq fun x h1 h2 => Hsub6.out.out x (.inr (by omega))
           have hfin := Hct.out.fin (leK_ordr ks) Hs1.out Hs2.out (by omega) (by rw [hEe]; exact Hsub6.out) Hsrt6.out (Sq.Sub.refl (Sq.rot d s m e) md b) (fun x y h1 h2 h3 => Hr2.out x y (by omega) h2 h3)
           have Hfin := Lib.hid hfin
           clear hfin
           go_wp2_with fail
           all_goals (go_end0; first | exact ⟨_, rfl, Hd6.out, Hfin.out.1, Hfin.out.2, Hk6.out⟩ | exact ⟨rfl, _, Hd6.out, Hfin.out.1, Hfin.out.2, Hk6.out⟩)
         ·skip
          have u6 : ¬ (e : Int) < (b : Int) := by omega
          ·skip
           have Hct := Lib.hid hct
           have Hsr := Lib.hid (hct.srts Hs1.out Hs2.out)
           have Hsx := Lib.hid (hct.ixs (fun x y => Hr.ix x < Hr.ix y) Hix.out)
           rw [hEe] at Hsr Hsx
           clear hct
           have Hd5 : Hid (Dat wr B g n (Sq.rot d s m e)) := by
            show Dat wr B g n (Sq.rot d s m e)
            rw [Sq.rot_id d (by omega) (by omega) (by omega)]
            exact Hd.out
           have Hk5 := Lib.hid Hk.out
           clear Hd Hk
           obtain ⟨w5, rfl⟩ : ∃ x : World, x = wr := ⟨_, rfl⟩
           have Hsrt6 : Hid (Sq.Srt (leK ks) (Sq.rot d s m e) a md) := fun x y h1 h2 h3 => Hsr.out.2.1 x y (by omega) h2 h3
           have Hsub6 := Lib.hid (Sq.Sub.refl (Sq.rot d s m e) a md)
           have Hd6 := Lib.hid Hd5.out
           have Hk6 := Lib.hid Hk5.out
           clear Hd5 Hk5
           obtain ⟨w6, rfl⟩ : ∃ x : World, x = w5 := ⟨_, rfl⟩
           obtain ⟨d6, hd6⟩ : ∃ x : Nat → Hr, x = Sq.rot d s m e := ⟨_, rfl⟩
           have Hd6e := Lib.hid hd6
           clear hd6
           have Hr1 : Hid (Sq.Srt (leK ks) (Sq.rot d s m e) md e) := Hsr.out.2.2.1.of_eq fun x h1 h2 => Hsub6.out.out x (.inr h1)
           have Hr2 : Hid (Sq.Srt (leK ks) (Sq.rot d s m e) e b) := Hsr.out.2.2.2.of_eq fun x h1 h2 => Hsub6.out.out x (.inr (by omega))
           have hfin := Hct.out.fin (leK_ordr ks) Hs1.out Hs2.out (by omega) (by rw [hEe]; exact Hsub6.out) Hsrt6.out (Sq.Sub.refl (Sq.rot d s m e) md b) (fun x y h1 h2 h3 => Hr2.out x y (by omega) h2 h3)
           have Hfin := Lib.hid hfin
           clear hfin
           go_wp2_with fail
           all_goals (go_end0; first | exact ⟨_, rfl, Hd6.out, Hfin.out.1, Hfin.out.2, Hk6.out⟩ | exact ⟨rfl, _, Hd6.out, Hfin.out.1, Hfin.out.2, Hk6.out⟩)
       ·skip
        have u3 : ¬ (s : Int) < (md : Int) := by omega
        have u4 : ¬ (m : Int) < (e : Int) := by omega
        by_cases bl : a < s
        ·skip
         have u5 : (a : Int) < (s : Int) := by omega
         by_cases bt : e < b
         ·skip
          have u6 : (e : Int) < (b : Int) := by omega
          ·skip
           have Hct := Lib.hid hct
           have Hsr := Lib.hid (hct.srts Hs1.out Hs2.out)
           have Hsx := Lib.hid (hct.ixs (fun x y => Hr.ix x < Hr.ix y) Hix.out)
           rw [hEe] at Hsr Hsx
           clear hct
           have Hd5 : Hid (Dat wr B g n (Sq.rot d s m e)) := by
            show Dat wr B g n (Sq.rot d s m e)
            rw [Sq.rot_id d (by omega) (by omega) (by omega)]
            exact Hd.out
           have Hk5 := Lib.hid Hk.out
           clear Hd Hk
           obtain ⟨w5, rfl⟩ : ∃ x : World, x = wr := ⟨_, rfl⟩
           have Hsrt6 : Hid (Sq.Srt (leK ks) (Sq.rot d s m e) a md) := fun x y h1 h2 h3 => Hsr.out.1 x y h1 h2 (by omega)
           have Hsub6 := Lib.hid (Sq.Sub.refl (Sq.rot d s m e) a md)
           have Hd6 := Lib.hid Hd5.out
           have Hk6 := Lib.hid Hk5.out
           clear Hd5 Hk5
           obtain ⟨w6, rfl⟩ : ∃ x : World, x = w5 := ⟨_, rfl⟩
           obtain ⟨d6, hd6⟩ : ∃ x : Nat → Hr, x = Sq.rot d s m e := ⟨_, rfl⟩
           have Hd6e := Lib.hid hd6
           clear hd6
           have Hr1 : Hid (Sq.Srt (leK ks) (Sq.rot d s m e) md e) := Hsr.out.2.2.1.of_eq fun x h1 h2 => Hsub6.out.out x (.inr h1)
           have Hr2 : Hid (Sq.Srt (leK ks) (Sq.rot d s m e) e b) := Hsr.out.2.2.2.of_eq fun x h1 h2 => Hsub6.out.out x (.inr (by omega))
           have hfin := Hct.out.fin (leK_ordr ks) Hs1.out Hs2.out (by omega) (by rw [hEe]; exact Hsub6.out) Hsrt6.out (Sq.Sub.refl (Sq.rot d s m e) md b) (fun x y h1 h2 h3 => Hr2.out x y (by omega) h2 h3)
           have Hfin := Lib.hid hfin
           clear hfin
           go_wp2_with fail
           all_goals (go_end0; first | exact ⟨_, rfl, Hd6.out, Hfin.out.1, Hfin.out.2, Hk6.out⟩ | exact ⟨rfl, _, Hd6.out, Hfin.out.1, Hfin.out.2, Hk6.out⟩)
         ·skip
          have u6 : ¬ (e : Int) < (b : Int) := by omega
          ·skip
           have Hct := Lib.hid hct
           have Hsr := Lib.hid (hct.srts Hs1.out Hs2.out)
           have Hsx := Lib.hid (hct.ixs (fun x y => Hr.ix x < Hr.ix y) Hix.out)
           rw [hEe] at Hsr Hsx
           clear hct
           have Hd5 : Hid (Dat wr B g n (Sq.rot d s m e)) := by
            show Dat wr B g n (Sq.rot d s m e)
            rw [Sq.rot_id d (by omega) (by omega) (by omega)]
            exact Hd.out
           have Hk5 := Lib.hid Hk.out
           clear Hd Hk
           obtain ⟨w5, rfl⟩ : ∃ x : World, x = wr := ⟨_, rfl⟩
           have Hsrt6 : Hid (Sq.Srt (leK ks) (Sq.rot d s m e) a md) := fun x y h1 h2 h3 => Hsr.out.1 x y h1 h2 (by omega)
           have Hsub6 := Lib.hid (Sq.Sub.refl (Sq.rot d s m e) a md)
           have Hd6 := Lib.hid Hd5.out
           have Hk6 := Lib.hid Hk5.out
           clear Hd5 Hk5
           obtain ⟨w6, rfl⟩ : ∃ x : World, x = w5 := ⟨_, rfl⟩
           obtain ⟨d6, hd6⟩ : ∃ x : Nat → Hr, x = Sq.rot d s m e := ⟨_, rfl⟩
           have Hd6e := Lib.hid hd6
           clear hd6
           have Hr1 : Hid (Sq.Srt (leK ks) (Sq.rot d s m e) md e) := Hsr.out.2.2.1.of_eq fun x h1 h2 => Hsub6.out.out x (.inr h1)
           have Hr2 : Hid (Sq.Srt (leK ks) (Sq.rot d s m e) e b) := Hsr.out.2.2.2.of_eq fun x h1 h2 => Hsub6.out.out x (.inr (by omega))
           have hfin := Hct.out.fin (leK_ordr ks) Hs1.out Hs2.out (by omega) (by rw [hEe]; exact Hsub6.out) Hsrt6.out (Sq.Sub.refl (Sq.rot d s m e) md b) (fun x y h1 h2 h3 => Hr2.out x y (by omega) h2 h3)
           have Hfin := Lib.hid hfin
           clear hfin
           go_wp2_with fail
           all_goals (go_end0; first | exact ⟨_, rfl, Hd6.out, Hfin.out.1, Hfin.out.2, Hk6.out⟩ | exact ⟨rfl, _, Hd6.out, Hfin.out.1, Hfin.out.2, Hk6.out⟩)
        ·skip
         have u5 : ¬ (a : Int) < (s : Int) := by omega
         by_cases bt : e < b
         ·skip
          have u6 : (e : Int) < (b : Int) := by omega
          ·skip
           have Hct := Lib.hid hct
           have Hsr := Lib.hid (hct.srts Hs1.out Hs2.out)
           have Hsx := Lib.hid (hct.ixs (fun x y => Hr.ix x < Hr.ix y) Hix.out)
           rw [hEe] at Hsr Hsx
           clear hct
           have Hd5 : Hid (Dat wr B g n (Sq.rot d s m e)) := by
            show Dat wr B g n (Sq.rot d s m e)
            rw [Sq.rot_id d (by omega) (by omega) (by omega)]
            exact Hd.out
           have Hk5 := Lib.hid Hk.out
           clear Hd Hk
           obtain ⟨w5, rfl⟩ : ∃ x : World, x = wr := ⟨_, rfl⟩
           have Hsrt6 : Hid (Sq.Srt (leK ks) (Sq.rot d s m e) a md) := fun x y h1 h2 h3 => Hsr.out.2.1 x y (by omega) h2 h3
           have Hsub6 := Lib.hid (Sq.Sub.refl (Sq.rot d s m e) a md)
           have Hd6 := Lib.hid Hd5.out
           have Hk6 := Lib.hid Hk5.out
           clear Hd5 Hk5
           obtain ⟨w6, rfl⟩ : ∃ x : World, x = w5 := ⟨_, rfl⟩
           obtain ⟨d6, hd6⟩ : ∃ x : Nat → Hr, x = Sq.rot d s m e := ⟨_, rfl⟩
           have Hd6e := Lib.hid hd6
           clear hd6
           have Hr1 : Hid (Sq.Srt (leK ks) (Sq.rot d s m e) md e) := Hsr.out.2.2.1.of_eq fun x h1 h2 => Hsub6.out.out x (.inr h1)
           have Hr2 : Hid (Sq.Srt (leK ks) (Sq.rot d s m e) e b) := Hsr.out.2.2.2.of_eq fun x h1 h2 => Hsub6.out.out x (.inr (by omega))
           have hfin := Hct.out.fin (leK_ordr ks) Hs1.out Hs2.out (by omega) (by rw [hEe]; exact Hsub6.out) Hsrt6.out (Sq.Sub.refl (Sq.rot d s m e) md b) (fun x y h1 h2 h3 => Hr2.out x y (by omega) h2 h3)
           have Hfin := Lib.hid hfin
           clear hfin
           go_wp2_with fail
           all_goals (go_end0; first | exact ⟨_, rfl, Hd6.out, Hfin.out.1, Hfin.out.2, Hk6.out⟩ | exact ⟨rfl, _, Hd6.out, Hfin.out.1, Hfin.out.2, Hk6.out⟩)
         ·skip
          have u6 : ¬ (e : Int) < (b : Int) := by omega
          ·skip
           have Hct := Lib.hid hct
           have Hsr := Lib.hid (hct.srts Hs1.out Hs2.out)
           have Hsx := Lib.hid (hct.ixs (fun x y => Hr.ix x < Hr.ix y) Hix.out)
           rw [hEe] at Hsr Hsx
           clear hct
           have Hd5 : Hid (Dat wr B g n (Sq.rot d s m e)) := by
            show Dat wr B g n (Sq.rot d s m e)
            rw [Sq.rot_id d (by omega) (by omega) (by omega)]
            exact Hd.out
           have Hk5 := Lib.hid Hk.out
           clear Hd Hk
           obtain ⟨w5, rfl⟩ : ∃ x : World, x = wr := ⟨_, rfl⟩
           have Hsrt6 : Hid (Sq.Srt (leK ks) (Sq.rot d s m e) a md) := fun x y h1 h2 h3 => Hsr.out.2.1 x y (by omega) h2 h3
           have Hsub6 := Lib.hid (Sq.Sub.refl (Sq.rot d s m e) a md)
           have Hd6 := Lib.hid Hd5.out
           have Hk6 := Lib.hid Hk5.out
           clear Hd5 Hk5
           obtain ⟨w6, rfl⟩ : ∃ x : World, x = w5 := ⟨_, rfl⟩
           obtain ⟨d6, hd6⟩ : ∃ x : Nat → Hr, x = Sq.rot d s m e := ⟨_, rfl⟩
           have Hd6e := Lib.hid hd6
           clear hd6
           have Hr1 : Hid (Sq.Srt (leK ks) (Sq.rot d s m e) md e) := Hsr.out.2.2.1.of_eq fun x h1 h2 => Hsub6.out.out x (.inr h1)
           have Hr2 : Hid (Sq.Srt (leK ks) (Sq.rot d s m e) e b) := Hsr.out.2.2.2.of_eq fun x h1 h2 => Hsub6.out.out x (.inr (by omega))
           have hfin := Hct.out.fin (leK_ordr ks) Hs1.out Hs2.out (by omega) (by rw [hEe]; exact Hsub6.out) Hsrt6.out (Sq.Sub.refl (Sq.rot d s m e) md b) (fun x y h1 h2 h3 => Hr2.out x y (by omega) h2 h3)
           have Hfin := Lib.hid hfin
           clear hfin
           go_wp2_with fail
           all_goals (go_end0; first | exact ⟨_, rfl, Hd6.out, Hfin.out.1, Hfin.out.2, Hk6.out⟩ | exact ⟨rfl, _, Hd6.out, Hfin.out.1, Hfin.out.2, Hk6.out⟩)
   ·skip
    go_enter Tryz.func90, Tryz.ntmps90
    go_wp2_with fail
    have hsr := Lib.hid (Sq.Srch.start (leK ks) d a m b md (s0 := a) (r0 := m) (by omega))
    go_loopw [20, 21] (fun vi vj wr => ∃ i j : Nat, vi = .int .i64 i ∧ vj = .int .i64 j ∧ i ≤ j ∧ j ≤ m ∧ a ≤ i ∧ Hid (Sq.Srch (leK ks) d a m b md (a) (m) i j) ∧ Hid (Dat wr B g n d) ∧ Hid (Keeps [23] B w wr)) (fun i j _ => (intOf j).toNat - (intOf i).toNat)
    case atStart => exact ⟨a, m, by go_num, by go_num, by omega, by omega, by omega, hsr.out, H.out, Keeps.refl _ _ _⟩
    case round =>
     obtain ⟨i, j, rfl, rfl, hij, hjb, hai, Hpl, Hd, Hk⟩ := hrel
     by_cases hlt : i < j
     ·skip
      obtain ⟨h, hh, hh1, hh2⟩ : ∃ h : Nat, ((i : Int) + (j : Int)) / 2 = (h : Int) ∧ i ≤ h ∧ h < j := ⟨(i + j) / 2, by omega, by omega, by omega⟩
      have hhn : h < n := by omega
      have t1 : (0 : Int) ≤ (h : Int) := by omega
      have t2 : (h : Int) < (n : Int) := by omega
      obtain ⟨x, hx, hx2, hxn⟩ : ∃ x : Nat, (md : Int) + (m : Int) - 1 - (h : Int) = (x : Int) ∧ x = md + m - 1 - h ∧ x < n := ⟨md + m - 1 - h, by omega, rfl, by omega⟩
      have s1 : (0 : Int) ≤ (x : Int) := by omega
      have s2 : (x : Int) < (n : Int) := by omega
      have s3 : IntKind.i64.wrap (x : Int) = (x : Int) := by rw [IntKind.wrap_i64]; omega
      have s4 : IntKind.i64.wrap ((md : Int) + (m : Int) - 1 - (h : Int)) = (x : Int) := by rw [IntKind.wrap_i64]; omega
      have Hx2 := Lib.hid hx2
      have hxm : m ≤ x := by omega
      have hxb : x < b := by omega
      clear hx2
      have ca := Hd.out.cell hxn
      have cb := Hd.out.cell hhn
      obtain ⟨A1, c1, e1, o1, _⟩ := Hd.out.row (x) hxn
      obtain ⟨A2, c2, e2, o2, _⟩ := Hd.out.row (h) hhn
      have hcl := scmp_any (d (x)).2 (d (h)).2 _ c1 _ c2 A1 A2 B kb kn kc KA ks wr.drew rfl rfl (o1.rd.below (Below.refl _ _).drew) (o2.rd.below (Below.refl _ _).drew) ((HK.out.keeps Hk.out).below (Below.refl _ _).drew) hkn
      have hle := cmp_leK ks (d (x)) (d (h)) (Hix.out h x (by omega) (by omega) (by omega) (by omega))
      rw [e1] at ca
      rw [e2] at cb
      generalize cmpR ks (d (x)).2 (d (h)).2 = R at *
      generalize (d (x)).2.length = l1 at *
      generalize (d (h)).2.length = l2 at *
      have Hcl := Lib.hid hcl
      have Hle := Lib.hid hle
      have cad : wr.drew.cell? ⟨g, x, none⟩ = some (.slice A1 l1 c1) := ca
      have cbd : wr.drew.cell? ⟨g, h, none⟩ = some (.slice A2 l2 c2) := cb
      clear hcl hle e1 e2 o1 o2
      go_wp2_with fail
      go_region_held3 (fun w' => w'.cell? ⟨g, x, none⟩ = some (.slice A1 l1 c1) ∧ w'.cell? ⟨g, h, none⟩ = some (.slice A2 l2 c2))
       (first | assumption | exact ⟨ca, cb⟩ | exact ⟨cad, cbd⟩ | exact ⟨ca3, cb3⟩)
       (first | (go_at_call 55; refine Hcl.out.mono ?_; rintro e w3 ⟨rfl, hb3⟩; have ca3 := cell_keep hb3 cad; have cb3 := cell_keep hb3 cbd))
      have hb3' : Below wr.heap.size wr w3 := (Below.refl _ _).drew.trans hb3
      have Hd3 := Lib.hid (Hd.out.below hb3')
      have Hk3 := Lib.hid (Hk.out.then_below hb3')
      clear hb3 hb3' Hcl Hk ca cb cad cbd Hd ca3 cb3
      clear s1 s2 s3 s4 t1 t2 hx
      by_cases hneg : R < 0
      ·have hb0 : decide (R < 0) = true := decide_eq_true hneg
       rw [hb0]
       have hst : Hid (Sq.Srch (leK ks) d a m b md (a) (m) i h) := Sq.Srch.down Hpl.out hh1 hh2 (by rw [← Hx2.out]; exact Hle.out.1 hneg)
       go_wp2_with fail
       go_roundw
       case rel => exact ⟨i, h, rfl, by go_num, by omega, by omega, by omega, hst.out, Hd3.out, Hk3.out⟩
       case measure => simp [intOf]; omega
      ·have hb0 : decide (R < 0) = false := decide_eq_false hneg
       rw [hb0]
       have hst : Hid (Sq.Srch (leK ks) d a m b md (a) (m) (h + 1) j) := Sq.Srch.up Hpl.out hh1 hh2 (by rw [← Hx2.out]; exact Classical.byContradiction fun h => hneg (Hle.out.2 h))
       go_wp2_with fail
       go_roundw
       case rel => exact ⟨h + 1, j, by go_num, rfl, by omega, by omega, by omega, hst.out, Hd3.out, Hk3.out⟩
       case measure => simp [intOf]; omega
     ·skip
      obtain ⟨s, rfl⟩ : ∃ s, s = i := ⟨_, rfl⟩
      obtain rfl : s = j := by omega
      have hct := Sq.Srch.cut (leK_ordr ks) Hpl.out (by omega) (by omega) (by omega) (by omega) (.inr ⟨by omega, rfl, rfl, by omega⟩)
      obtain ⟨e, hE, hEe⟩ : ∃ e : Nat, (md : Int) + (m : Int) - (s : Int) = (e : Int) ∧ md + m - s = e := ⟨md + m - s, by have := hct.lo'; omega, rfl⟩
      have k1 := hct.lo
      have k2 := hct.hi
      have k3 := hct.lo'
      have k4 := hct.hi'
      have k5 := hct.smid
      have HEe := Lib.hid hEe
      clear Hpl
      by_cases bp : s < m
      ·skip
       have u1 : (s : Int) < (m : Int) := by omega
       have u2 : (md : Int) < (e : Int) := by omega
       by_cases bq : s < md
       ·skip
        have u3 : (s : Int) < (md : Int) := by omega
        have u4 : (m : Int) < (e : Int) := by omega
        by_cases bl : a < s
        ·skip
         have u5 : (a : Int) < (s : Int) := by omega
         by_cases bt : e < b
         ·skip
          have u6 : (e : Int) < (b : Int) := by omega
          ·skip
           have Hct := Lib.hid hct
           have Hsr := Lib.hid (hct.srts Hs1.out Hs2.out)
           have Hsx := Lib.hid (hct.ixs (fun x y => Hr.ix x < Hr.ix y) Hix.out)
           rw [hEe] at Hsr Hsx
           clear hct
           go_wp2_with fail
           refine (rotate_c (.func (Fn.func 55) #[] #[.pointer (some ⟨kb, 0, none⟩)]) B g n c d s m e wr Hd.out hn hnc (by omega) (by omega) (by omega)).mono ?_
           rintro ee w5 ⟨rfl, hd5, hk5⟩
           have Hd5 := Lib.hid hd5
           have Hk5 := Lib.hid (Hk.out.trans hk5)
           clear hd5 hk5 Hd Hk
           go_wp2_with fail
           refine (Ih.out (Sq.rot d s m e) a s md w5 (by omega) (by omega) (by omega) (by omega) Hd5.out (HK.out.keeps Hk5.out) Hsr.out.1 Hsr.out.2.1 Hsx.out.1).mono ?_
           rintro ee w6 ⟨d6, rfl, hd6, hsub6, hsrt6, hk6⟩
           have Hd6 := Lib.hid hd6
           have Hk6 := Lib.hid (Hk5.out.trans hk6)
           have Hsub6 := Lib.hid hsub6
           have Hsrt6 := Lib.hid hsrt6
           clear hd6 hk6 hsub6 hsrt6 Hd5 Hk5
           have Hr1 : Hid (Sq.Srt (leK ks) d6 md e) := Hsr.out.2.2.1.of_eq fun x h1 h2 => Hsub6.out.out x (.inr h1)
           have Hr2 : Hid (Sq.Srt (leK ks) d6 e b) := Hsr.out.2.2.2.of_eq fun x h1 h2 => Hsub6.out.out x (.inr (by omega))
           go_wp2_with fail
           refine (Ih.out d6 md e b w6 (by omega) (by omega) (by omega) (by omega) Hd6.out (HK.out.keeps Hk6.out) Hr1.out Hr2.out (fun i j i1 i2 j1 j2 => by rw [Hsub6.out.out i (.inr i1), Hsub6.out.out j (.inr (by omega))]; exact Hsx.out.2 i j i1 i2 j1 j2)).mono ?_
           rintro ee w7 ⟨d7, rfl, hd7, hsub7, hsrt7, hk7⟩
           have hfin := Hct.out.fin (leK_ordr ks) Hs1.out Hs2.out (by omega) (by rw [hEe]; exact Hsub6.out) Hsrt6.out hsub7 hsrt7
           have Hfin := Lib.hid hfin
           have Hd7 := Lib.hid hd7
           have Hk7 := Lib.hid (Hk6.out.trans hk7)
           clear hd7 hk7 hsub7 hsrt7 hfin
           go_wp2_with fail
           all_goals (go_end0; first | exact ⟨d7, rfl, Hd7.out, Hfin.out.1, Hfin.out.2, Hk7.out⟩ | exact ⟨rfl, d7, Hd7.out, Hfin.out.1, Hfin.out.2, Hk7.out⟩)
         ·skip
          have u6 : ¬ (e : Int) < (b : Int) := by omega
          ·skip
           have Hct := Lib.hid hct
           have Hsr := Lib.hid (hct.srts Hs1.out Hs2.out)
           have Hsx := Lib.hid (hct.ixs (fun x y => Hr.ix x < Hr.ix y) Hix.out)
           rw [hEe] at Hsr Hsx
           clear hct
           go_wp2_with fail
           refine (rotate_c (.func (Fn.func 55) #[] #[.pointer (some ⟨kb, 0, none⟩)]) B g n c d s m e wr Hd.out hn hnc (by omega) (by omega) (by omega)).mono ?_
           rintro ee w5 ⟨rfl, hd5, hk5⟩
           have Hd5 := Lib.hid hd5
           have Hk5 := Lib.hid (Hk.out.trans hk5)
           clear hd5 hk5 Hd Hk
           go_wp2_with fail
           refine (Ih.out (Sq.rot d s m e) a s md w5 (by omega) (by omega) (by omega) (by omega) Hd5.out (HK.out.keeps Hk5.out) Hsr.out.1 Hsr.out.2.1 Hsx.out.1).mono ?_
           rintro ee w6 ⟨d6, rfl, hd6, hsub6, hsrt6, hk6⟩
           have Hd6 := Lib.hid hd6
           have Hk6 := Lib.hid (Hk5.out.trans hk6)
           have Hsub6 := Lib.hid hsub6
           have Hsrt6 := Lib.hid hsrt6
           clear hd6 hk6 hsub6 hsrt6 Hd5 Hk5
           have Hr1 : Hid (Sq.Srt (leK ks) d6 md e) := Hsr.out.2.2.1.of_eq fun x h1 h2 => Hsub6.out.out x (.inr h1)
           have Hr2 : Hid (Sq.Srt (leK ks) d6 e b) := Hsr.out.2.2.2.of_eq fun x h1 h2 => Hsub6.out.out x (.inr (by omega))
           have hfin := Hct.out.fin (leK_ordr ks) Hs1.out Hs2.out (by omega) (by rw [hEe]; exact Hsub6.out) Hsrt6.out (Sq.Sub.refl d6 md b) (fun x y h1 h2 h3 => Hr1.out x y h1 h2 (by omega))
           have Hfin := Lib.hid hfin
           clear hfin
           go_wp2_with fail
           all_goals (go_end0; first | exact ⟨_, rfl, Hd6.out, Hfin.out.1, Hfin.out.2, Hk6.out⟩ | exact ⟨rfl, _, Hd6.out, Hfin.out.1, Hfin.out.2, Hk6.out⟩)
        ·skip
         have u5 : ¬ (a : Int) < (s : Int) := by omega
         by_cases bt : e < b
         ·skip
          have u6 : (e : Int) < (b : Int) := by omega
          ·skip
           have Hct := Lib.hid hct
           have Hsr := Lib.hid (hct.srts Hs1.out Hs2.out)
           have Hsx := Lib.hid (hct.ixs (fun x y => Hr.ix x < Hr.ix y) Hix.out)
           rw [hEe] at Hsr Hsx
           clear hct
           go_wp2_with fail
           refine (rotate_c (.func (Fn.func 55) #[] #[.pointer (some ⟨kb, 0, none⟩)]) B g n c d s m e wr Hd.out hn hnc (by omega) (by omega) (by omega)).mono ?_
           rintro ee w5 ⟨rfl, hd5, hk5⟩
           have Hd5 := Lib.hid hd5
           have Hk5 := Lib.hid (Hk.out.trans hk5)
           clear hd5 hk5 Hd Hk
           have Hsrt6 : Hid (Sq.Srt (leK ks) (Sq.rot d s m e) a md) := fun x y h1 h2 h3 => Hsr.out.2.1 x y (by omega) h2 h3
           have Hsub6 := Lib.hid (Sq.Sub.refl (Sq.rot d s m e) a md)
           have Hd6 := Lib.hid Hd5.out
           have Hk6 := Lib.hid Hk5.out
           clear Hd5 Hk5
           obtain ⟨w6, rfl⟩ : ∃ x : World, x = w5 := ⟨_, rfl⟩
           obtain ⟨d6, hd6⟩ : ∃ x : Nat → Hr, x = Sq.rot d s m e := ⟨_, rfl⟩
           have Hd6e := Lib.hid hd6
           clear hd6
           have Hr1 : Hid (Sq.Srt (leK ks) (Sq.rot d s m e) md e) := Hsr.out.2.2.1.of_eq fun x h1 h2 => Hsub6.out.out x (.inr h1)
           have Hr2 : Hid (Sq.Srt (leK ks) (Sq.rot d s m e) e b) := Hsr.out.2.2.2.of_eq fun x h1 h2 => Hsub6.out.out x (.inr (by omega))
           go_wp2_with fail
           refine (Ih.out (Sq.rot d s m e) md e b w6 (by omega) (by omega) (by omega) (by omega) Hd6.out (HK.out.keeps Hk6.out) Hr1.out Hr2.out (fun i j i1 i2 j1 j2 => by rw [Hsub6.out.out i (.inr i1), Hsub6.out.out j (.inr (by omega))]; exact Hsx.out.2 i j i1 i2 j1 j2)).mono ?_
           rintro ee w7 ⟨d7, rfl, hd7, hsub7, hsrt7, hk7⟩
           have hfin := Hct.out.fin (leK_ordr ks) Hs1.out Hs2.out (by omega) (by rw [hEe]; exact Hsub6.out) Hsrt6.out hsub7 hsrt7
           have Hfin := Lib.hid hfin
           have Hd7 := Lib.hid hd7
           have Hk7 := Lib.hid (Hk6.out.trans hk7)
           clear hd7 hk7 hsub7 hsrt7 hfin
           go_wp2_with fail
           all_goals (go_end0; first | exact ⟨d7, rfl, Hd7.out, Hfin.out.1, Hfin.out.2, Hk7.out⟩ | exact ⟨rfl, d7, Hd7.out, Hfin.out.1, Hfin.out.2, Hk7.out⟩)
         ·skip
          have u6 : ¬ (e : Int) < (b : Int) := by omega
          ·skip
           have Hct := Lib.hid hct
           have Hsr := Lib.hid (hct.srts Hs1.out Hs2.out)
           have Hsx := Lib.hid (hct.ixs (fun x y => Hr.ix x < Hr.ix y) Hix.out)
           rw [hEe] at Hsr Hsx
           clear hct
           go_wp2_with fail
           refine (rotate_c (.func (Fn.func 55) #[] #[.pointer (some ⟨kb, 0, none⟩)]) B g n c d s m e wr Hd.out hn hnc (by omega) (by omega) (by omega)).mono ?_
           rintro ee w5 ⟨rfl, hd5, hk5⟩
           have Hd5 := Lib.hid hd5
           have Hk5 := Lib.hid (Hk.out.trans hk5)
           clear hd5 hk5 Hd Hk
           have Hsrt6 : Hid (Sq.Srt (leK ks) (Sq.rot d s m e) a md) := fun x y h1 h2 h3 => Hsr.out.2.1 x y (by omega) h2 h3
           have Hsub6 := Lib.hid (Sq.Sub.refl (Sq.rot d s m e) a md)
           have Hd6 := Lib.hid Hd5.out
           have Hk6 := Lib.hid Hk5.out
           clear Hd5 Hk5
           obtain ⟨w6, rfl⟩ : ∃ x : World, x = w5 := ⟨_, rfl⟩
           obtain ⟨d6, hd6⟩ : ∃ x : Nat → Hr, x = Sq.rot d s m e := ⟨_, rfl⟩
           have Hd6e := Lib.hid hd6
           clear hd6
           have Hr1 : Hid (Sq.Srt (leK ks) (Sq.rot d s m e) md e) := Hsr.out.2.2.1.of_eq fun x h1 h2 => Hsub6.out.out x (.inr h1)
           have Hr2 : Hid (Sq.Srt (leK ks) (Sq.rot d s m e) e b) := Hsr.out.2.2.2.of_eq fun x h1 h2 => Hsub6.out.out x (.inr (by omega))
           have hfin := Hct.out.fin (leK_ordr ks) Hs1.out Hs2.out (by omega) (by rw [hEe]; exact Hsub6.out) Hsrt6.out (Sq.Sub.refl (Sq.rot d s m e) md b) (fun x y h1 h2 h3 => Hr1.out x y h1 h2 (by omega))
           have Hfin := Lib.hid hfin
           clear hfin
           go_wp2_with fail
           all_goals (go_end0; first | exact ⟨_, rfl, Hd6.out, Hfin.out.1, Hfin.out.2, Hk6.out⟩ | exact ⟨rfl, _, Hd6.out, Hfin.out.1, Hfin.out.2, Hk6.out⟩)
       ·skip
        have u3 : ¬ (s : Int) < (md : Int) := by omega
        have u4 : ¬ (m : Int) < (e : Int) := by omega
        by_cases bl : a < s
        ·skip
         have u5 : (a : Int) < (s : Int) := by omega
         by_cases bt : e < b
         ·skip
          have u6 : (e : Int) < (b : Int) := by omega
          ·skip
           have Hct := Lib.hid hct
           have Hsr := Lib.hid (hct.srts Hs1.out Hs2.out)
           have Hsx := Lib.hid (hct.ixs (fun x y => Hr.ix x < Hr.ix y) Hix.out)
           rw [hEe] at Hsr Hsx
           clear hct
           have Hd5 : Hid (Dat wr B g n (Sq.rot d s m e)) := by
            show Dat wr B g n (Sq.rot d s m e)
            rw [Sq.rot_id d (by omega) (by omega) (by omega)]
            exact Hd.out
           have Hk5 := Lib.hid Hk.out
           clear Hd Hk
           obtain ⟨w5, rfl⟩ : ∃ x : World, x = wr := ⟨_, rfl⟩
           have Hsrt6 : Hid (Sq.Srt (leK ks) (Sq.rot d s m e) a md) := fun x y h1 h2 h3 => Hsr.out.1 x y h1 h2 (by omega)
           have Hsub6 := Lib.hid (Sq.Sub.refl (Sq.rot d s m e) a md)
           have Hd6 := Lib.hid Hd5.out
           have Hk6 := Lib.hid Hk5.out
           clear Hd5 Hk5
           obtain ⟨w6, rfl⟩ : ∃ x : World, x = w5 := ⟨_, rfl⟩
           obtain ⟨d6, hd6⟩ : ∃ x : Nat → Hr, x = Sq.rot d s m e := ⟨_, rfl⟩
           have Hd6e := Lib.hid hd6
           clear hd6
           have Hr1 : Hid (Sq.Srt (leK ks) (Sq.rot d s m e) md e) := Hsr.out.2.2.1.of_eq fun x h1 h2 => Hsub6.out.out x (.inr h1)
           have Hr2 : Hid (Sq.Srt (leK ks) (Sq.rot d s m e) e b) := Hsr.out.2.2.2.of_eq fun x h1 h2 => Hsub6.out.out x (.inr (by omega))
           go_wp2_with fail
           refine (Ih.out (Sq.rot d s m e) md e b w6 (by omega) (by omega) (by omega) (by omega) Hd6.out (HK.out.keeps Hk6.out) Hr1.out Hr2.out (fun i j i1 i2 j1 j2 => by rw [Hsub6.out.out i (.inr i1), Hsub6.out.out j (.inr (by omega))]; exact Hsx.out.2 i j i1 i2 j1 j2)).mono ?_
           rintro ee w7 ⟨d7, rfl, hd7, hsub7, hsrt7, hk7⟩
           have hfin := Hct.out.fin (leK_ordr ks) Hs1.out Hs2.out (by omega) (by rw [hEe]; exact Hsub6.out) Hsrt6.out hsub7 hsrt7
           have Hfin := Lib.hid hfin
           have Hd7 := Lib.hid hd7
           have Hk7 := Lib.hid (Hk6.out.trans hk7)
           clear hd7 hk7 hsub7 hsrt7 hfin
           go_wp2_with fail
           all_goals (go_end0; first | exact ⟨d7, rfl, Hd7.out, Hfin.out.1, Hfin.out.2, Hk7.out⟩ | exact ⟨rfl, d7, Hd7.out, Hfin.out.1, Hfin.out.2, Hk7.out⟩)
         ·skip
          have u6 : ¬ (e : Int) < (b : Int) := by omega
          ·skip
           have Hct := Lib.hid hct
           have Hsr := Lib.hid (hct.srts Hs1.out Hs2.out)
           have Hsx := Lib.hid (hct.ixs (fun x y => Hr.ix x < Hr.ix y) Hix.out)
           rw [hEe] at Hsr Hsx
           clear hct
           have Hd5 : Hid (Dat wr B g n (Sq.rot d s m e)) := by
            show Dat wr B g n (Sq.rot d s m e)
            rw [Sq.rot_id d (by omega) (by omega) (by omega)]
            exact Hd.out
           have Hk5 := Lib.hid Hk.out
           clear Hd Hk
           obtain ⟨w5, rfl⟩ : ∃ x : World, x = wr := ⟨_, rfl⟩
           have Hsrt6 : Hid (Sq.Srt (leK ks) (Sq.rot d s m e) a md) := fun x y h1 h2 h3 => Hsr.out.1 x y h1 h2 (by omega)
           have Hsub6 := Lib.hid (Sq.Sub.refl (Sq.rot d s m e) a md)
           have Hd6 := Lib.hid Hd5.out
           have Hk6 := Lib.hid Hk5.out
           clear Hd5 Hk5
           obtain ⟨w6, rfl⟩ : ∃ x : World, x = w5 := ⟨_, rfl⟩
           obtain ⟨d6, hd6⟩ : ∃ x : Nat → Hr, x = Sq.rot d s m e := ⟨_, rfl⟩
           have Hd6e := Lib.hid hd6
           clear hd6
           have Hr1 : Hid (Sq.Srt (leK ks) (Sq.rot d s m e) md e) := Hsr.out.2.2.1.of_eq fun x h1 h2 => Hsub6.out.out x (.inr h1)
           have Hr2 : Hid (Sq.Srt (leK ks) (Sq.rot d s m e) e b) := Hsr.out.2.2.2.of_eq fun x h1 h2 => Hsub6.out.out x (.inr (by omega))
           have hfin := Hct.out.fin (leK_ordr ks) Hs1.out Hs2.out (by omega) (by rw [hEe]; exact Hsub6.out) Hsrt6.out (Sq.Sub.refl (Sq.rot d s m e) md b) (fun x y h1 h2 h3 => Hr1.out x y h1 h2 (by omega))
           have Hfin := Lib.hid hfin
           clear hfin
           go_wp2_with fail
           all_goals (go_end0; first | exact ⟨_, rfl, Hd6.out, Hfin.out.1, Hfin.out.2, Hk6.out⟩ | exact ⟨rfl, _, Hd6.out, Hfin.out.1, Hfin.out.2, Hk6.out⟩)
        ·skip
         have u5 : ¬ (a : Int) < (s : Int) := by omega
         by_cases bt : e < b
         ·skip
          have u6 : (e : Int) < (b : Int) := by omega
          ·skip
           have Hct := Lib.hid hct
           have Hsr := Lib.hid (hct.srts Hs1.out Hs2.out)
           have Hsx := Lib.hid (hct.ixs (fun x y => Hr.ix x < Hr.ix y) Hix.out)
           rw [hEe] at Hsr Hsx
           clear hct
           have Hd5 : Hid (Dat wr B g n (Sq.rot d s m e)) := by
            show Dat wr B g n (Sq.rot d s m e)
            rw [Sq.rot_id d (by omega) (by omega) (by omega)]
            exact Hd.out
           have Hk5 := Lib.hid Hk.out
           clear Hd Hk
           obtain ⟨w5, rfl⟩ : ∃ x : World, x = wr := ⟨_, rfl⟩
           have Hsrt6 : Hid (Sq.Srt (leK ks) (Sq.rot d s m e) a md) := fun x y h1 h2 h3 => Hsr.out.2.1 x y (by omega) h2 h3
           have Hsub6 := Lib.hid (Sq.Sub.refl (Sq.rot d s m e) a md)
           have Hd6 := Lib.hid Hd5.out
           have Hk6 := Lib.hid Hk5.out
           clear Hd5 Hk5
           obtain ⟨w6, rfl⟩ : ∃ x : World, x = w5 := ⟨_, rfl⟩
           obtain ⟨d6, hd6⟩ : ∃ x : Nat → Hr, x = Sq.rot d s m e := ⟨_, rfl⟩
           have Hd6e := Lib.hid hd6
           clear hd6
           have Hr1 : Hid (Sq.Srt (leK ks) (Sq.rot d s m e) md e) := Hsr.out.2.2.1.of_eq fun x h1 h2 => Hsub6.out.out x (.inr h1)
           have Hr2 : Hid (Sq.Srt (leK ks) (Sq.rot d s m e) e b) := Hsr.out.2.2.2.of_eq fun x h1 h2 => Hsub6.out.out x (.inr (by omega))
           go_wp2_with fail
           refine (Ih.out (Sq.rot d s m e) md e b w6 (by omega) (by omega) (by omega) (by omega) Hd6.out (HK.out.keeps Hk6.out) Hr1.out Hr2.out (fun i j i1 i2 j1 j2 => by rw [Hsub6.out.out i (.inr i1), Hsub6.out.out j (.inr (by omega))]; exact Hsx.out.2 i j i1 i2 j1 j2)).mono ?_
           rintro ee w7 ⟨d7, rfl, hd7, hsub7, hsrt7, hk7⟩
           have hfin := Hct.out.fin (leK_ordr ks) Hs1.out Hs2.out (by omega) (by rw [hEe]; exact Hsub6.out) Hsrt6.out hsub7 hsrt7
           have Hfin := Lib.hid hfin
           have Hd7 := Lib.hid hd7
           have Hk7 := Lib.hid (Hk6.out.trans hk7)
           clear hd7 hk7 hsub7 hsrt7 hfin
           go_wp2_with fail
           all_goals (go_end0; first | exact ⟨d7, rfl, Hd7.out, Hfin.out.1, Hfin.out.2, Hk7.out⟩ | exact ⟨rfl, d7, Hd7.out, Hfin.out.1, Hfin.out.2, Hk7.out⟩)
         ·skip
          have u6 : ¬ (e : Int) < (b : Int) := by omega
          ·skip
           have Hct := Lib.hid hct
           have Hsr := Lib.hid (hct.srts Hs1.out Hs2.out)
           have Hsx := Lib.hid (hct.ixs (fun x y => Hr.ix x < Hr.ix y) Hix.out)
           rw [hEe] at Hsr Hsx
           clear hct
           have Hd5 : Hid (Dat wr B g n (Sq.rot d s m e)) := by
            show Dat wr B g n (Sq.rot d s m e)
            rw [Sq.rot_id d (by omega) (by omega) (by omega)]
            exact Hd.out
           have Hk5 := Lib.hid Hk.out
           clear Hd Hk
           obtain ⟨w5, rfl⟩ : ∃ x : World, x = wr := ⟨_, rfl⟩
           have Hsrt6 : Hid (Sq.Srt (leK ks) (Sq.rot d s m e) a md) := fun x y h1 h2 h3 => Hsr.out.2.1 x y (by omega) h2 h3
           have Hsub6 := Lib.hid (Sq.Sub.refl (Sq.rot d s m e) a md)
           have Hd6 := Lib.hid Hd5.out
           have Hk6 := Lib.hid Hk5.out
           clear Hd5 Hk5
           obtain ⟨w6, rfl⟩ : ∃ x : World, x = w5 := ⟨_, rfl⟩
           obtain ⟨d6, hd6⟩ : ∃ x : Nat → Hr, x = Sq.rot d s m e := ⟨_, rfl⟩
           have Hd6e := Lib.hid hd6
           clear hd6
           have Hr1 : Hid (Sq.Srt (leK ks) (Sq.rot d s m e) md e) := Hsr.out.2.2.1.of_eq fun x h1 h2 => Hsub6.out.out x (.inr h1)
           have Hr2 : Hid (Sq.Srt (leK ks) (Sq.rot d s m e) e b) := Hsr.out.2.2.2.of_eq fun x h1 h2 => Hsub6.out.out x (.inr (by omega))
           have hfin := Hct.out.fin (leK_ordr ks) Hs1.out Hs2.out (by omega) (by rw [hEe]; exact Hsub6.out) Hsrt6.out (Sq.Sub.refl (Sq.rot d s m e) md b) (fun x y h1 h2 h3 => Hr1.out x y h1 h2 (by omega))
           have Hfin := Lib.hid hfin
           clear hfin
           go_wp2_with fail
           all_goals (go_end0; first | exact ⟨_, rfl, Hd6.out, Hfin.out.1, Hfin.out.2, Hk6.out⟩ | exact ⟨rfl, _, Hd6.out, Hfin.out.1, Hfin.out.2, Hk6.out⟩)
      ·skip
       have u1 : ¬ (s : Int) < (m : Int) := by omega
       have u2 : ¬ (md : Int) < (e : Int) := by omega
       by_cases bq : s < md
       ·skip
        have u3 : (s : Int) < (md : Int) := by omega
        have u4 : (m : Int) < (e : Int) := by omega
        by_cases bl : a < s
        ·skip
         have u5 : (a : Int) < (s : Int) := by omega
         by_cases bt : e < b
         ·skip
          have u6 : (e : Int) < (b : Int) := by omega
          ·skip
           have Hct := Lib.hid hct
           have Hsr := Lib.hid (hct.srts Hs1.out Hs2.out)
           have Hsx := Lib.hid (hct.ixs (fun x y => Hr.ix x < Hr.ix y) Hix.out)
           rw [hEe] at Hsr Hsx
           clear hct
           have Hd5 : Hid (Dat wr B g n (Sq.rot d s m e)) := by
            show Dat wr B g n (Sq.rot d s m e)
            rw [Sq.rot_id d (by omega) (by omega) (by omega)]
            exact Hd.out
           have Hk5 := Lib.hid Hk.out
           clear Hd Hk
           obtain ⟨w5, rfl⟩ : ∃ x : World, x = wr := ⟨_, rfl⟩
           go_wp2_with fail
           refine (Ih.out (Sq.rot d s m e) a s md w5 (by omega) (by omega) (by omega) (by omega) Hd5.out (HK.out.keeps Hk5.out) Hsr.out.1 Hsr.out.2.1 Hsx.out.1).mono ?_
           rintro ee w6 ⟨d6, rfl, hd6, hsub6, hsrt6, hk6⟩
           have Hd6 := Lib.hid hd6
           have Hk6 := Lib.hid (Hk5.out.trans hk6)
           have Hsub6 := Lib.hid hsub6
           have Hsrt6 := Lib.hid hsrt6
           clear hd6 hk6 hsub6 hsrt6 Hd5 Hk5
           have Hr1 : Hid (Sq.Srt (leK ks) d6 md e) := Hsr.out.2.2.1.of_eq fun x h1 h2 => Hsub6.out.out x (.inr h1)
           have Hr2 : Hid (Sq.Srt (leK ks) d6 e b) := Hsr.out.2.2.2.of_eq fun x h1 h2 => Hsub6.out.out x (.inr (by omega))
           have hfin := Hct.out.fin (leK_ordr ks) Hs1.out Hs2.out (by omega) (by rw [hEe]; exact Hsub6.out) Hsrt6.out (Sq.Sub.refl d6 md b) (fun x y h1 h2 h3 => Hr2.out x y (by omega) h2 h3)
           have Hfin := Lib.hid hfin
           clear hfin
           go_wp2_with fail
           all_goals (go_end0; first | exact ⟨_, rfl, Hd6.out, Hfin.out.1, Hfin.out.2, Hk6.out⟩ | exact ⟨rfl, _, Hd6.out, Hfin.out.1, Hfin.out.2, Hk6.out⟩)
         ·skip
          have u6 : ¬ (e : Int) < (b : Int) := by omega
          ·skip
           have Hct := Lib.hid hct
           have Hsr := Lib.hid (hct.srts Hs1.out Hs2.out)
           have Hsx := Lib.hid (hct.ixs (fun x y => Hr.ix x < Hr.ix y) Hix.out)
           rw [hEe] at Hsr Hsx
           clear hct
           have Hd5 : Hid (Dat wr B g n (Sq.rot d s m e)) := by
            show Dat wr B g n (Sq.rot d s m e)
            rw [Sq.rot_id d (by omega) (by omega) (by omega)]
            exact Hd.out
           have Hk5 := Lib.hid Hk.out
           clear Hd Hk
           obtain ⟨w5, rfl⟩ : ∃ x : World, x = wr := ⟨_, rfl⟩
           go_wp2_with fail
           refine (Ih.out (Sq.rot d s m e) a s md w5 (by omega) (by omega) (by omega) (by omega) Hd5.out (HK.out.keeps Hk5.out) Hsr.out.1 Hsr.out.2.1 Hsx.out.1).mono ?_
           rintro ee w6 ⟨d6, rfl, hd6, hsub6, hsrt6, hk6⟩
           have Hd6 := Lib.hid hd6
           have Hk6 := Lib.hid (Hk5.out.trans hk6)
           have Hsub6 := Lib.hid hsub6
           have Hsrt6 := Lib.hid hsrt6
           clear hd6 hk6 hsub6 hsrt6 Hd5 Hk5
           have Hr1 : Hid (Sq.Srt (leK ks) d6 md e) := Hsr.out.2.2.1.of_eq fun x h1 h2 => Hsub6.out.out x (.inr h1)
           have Hr2 : Hid (Sq.Srt (leK ks) d6 e b) := Hsr.out.2.2.2.of_eq fun x h1 h2 => Hsub6.out.out x (.inr (by omega))
           have hfin := Hct.out.fin (leK_ordr ks) Hs1.out Hs2.out (by omega) (by rw [hEe]; exact Hsub6.out) Hsrt6.out (Sq.Sub.refl d6 md b) (fun x y h1 h2 h3 => Hr2.out x y (by omega) h2 h3)
           have Hfin := Lib.hid hfin
           clear hfin
           go_wp2_with fail
           all_goals (go_end0; first | exact ⟨_, rfl, Hd6.out, Hfin.out.1, Hfin.out.2, Hk6.out⟩ | exact ⟨rfl, _, Hd6.out, Hfin.out.1, Hfin.out.2, Hk6.out⟩)
        ·skip
         have u5 : ¬ (a : Int) < (s : Int) := by omega
         by_cases bt : e < b
         ·skip
          have u6 : (e : Int) < (b : Int) := by omega
          ·skip
           have Hct := Lib.hid hct
           have Hsr := Lib.hid (hct.srts Hs1.out Hs2.out)
           have Hsx := Lib.hid (hct.ixs (fun x y => Hr.ix x < Hr.ix y) Hix.out)
           rw [hEe] at Hsr Hsx
           clear hct
           have Hd5 : Hid (Dat wr B g n (Sq.rot d s m e)) := by
            show Dat wr B g n (Sq.rot d s m e)
            rw [Sq.rot_id d (by omega) (by omega) (by omega)]
            exact Hd.out
           have Hk5 := Lib.hid Hk.out
           clear Hd Hk
           obtain ⟨w5, rfl⟩ : ∃ x : World, x = wr := ⟨_, rfl⟩
           have Hsrt6 : Hid (Sq.Srt (leK ks) (Sq.rot d s m e) a md) := fun x y h1 h2 h3 => Hsr.out.2.1 x y (by omega) h2 h3
           have Hsub6 := Lib.hid (Sq.Sub.refl (Sq.rot d s m e) a md)
           have Hd6 := Lib.hid Hd5.out
           have Hk6 := Lib.hid Hk5.out
           clear Hd5 Hk5
           obtain ⟨w6, rfl⟩ : ∃ x : World, x = w5 := ⟨_, rfl⟩
           obtain ⟨d6, hd6⟩ : ∃ x : Nat → Hr, x = Sq.rot d s m e := ⟨_, rfl⟩
           have Hd6e := Lib.hid hd6
           clear hd6
           have Hr1 : Hid (Sq.Srt (leK ks) (Sq.rot d s m e) md e) := Hsr.out.2.2.1.of_eq fun x h1 h2 => Hsub6.out.out x (.inr h1)
           have Hr2 : Hid (Sq.Srt (leK ks) (Sq.rot d s m e) e b) := Hsr.out.2.2.2.of_eq fun x h1 h2 => Hsub6.out.out x (.inr (by omega))
           have hfin := Hct.out.fin (leK_ordr ks) Hs1.out Hs2.out (by omega) (by rw [hEe]; exact Hsub6.out) Hsrt6.out (Sq.Sub.refl (Sq.rot d s m e) md b) (fun x y h1 h2 h3 => Hr2.out x y (by omega) h2 h3)
           have Hfin := Lib.hid hfin
           clear hfin
           go_wp2_with fail
           all_goals (go_end0; first | exact ⟨_, rfl, Hd6.out, Hfin.out.1, Hfin.out.2, Hk6.out⟩ | exact ⟨rfl, _, Hd6.out, Hfin.out.1, Hfin.out.2, Hk6.out⟩)
         ·skip
          have u6 : ¬ (e : Int) < (b : Int) := by omega
          ·skip
           have Hct := Lib.hid hct
           have Hsr := Lib.hid (hct.srts Hs1.out Hs2.out)
           have Hsx := Lib.hid (hct.ixs (fun x y => Hr.ix x < Hr.ix y) Hix.out)
           rw [hEe] at Hsr Hsx
           clear hct
           have Hd5 : Hid (Dat wr B g n (Sq.rot d s m e)) := by
            show Dat wr B g n (Sq.rot d s m e)
            rw [Sq.rot_id d (by omega) (by omega) (by omega)]
            exact Hd.out
           have Hk5 := Lib.hid Hk.out
           clear Hd Hk
           obtain ⟨w5, rfl⟩ : ∃ x : World, x = wr := ⟨_, rfl⟩
           have Hsrt6 : Hid (Sq.Srt (leK ks) (Sq.rot d s m e) a md) := fun x y h1 h2 h3 => Hsr.out.2.1 x y (by omega) h2 h3
           have Hsub6 := Lib.hid (Sq.Sub.refl (Sq.rot d s m e) a md)
           have Hd6 := Lib.hid Hd5.out
           have Hk6 := Lib.hid Hk5.out
           clear Hd5 Hk5
           obtain ⟨w6, rfl⟩ : ∃ x : World, x = w5 := ⟨_, rfl⟩
           obtain ⟨d6, hd6⟩ : ∃ x : Nat → Hr, x = Sq.rot d s m e := ⟨_, rfl⟩
           have Hd6e := Lib.hid hd6
           clear hd6
           have Hr1 : Hid (Sq.Srt (leK ks) (Sq.rot d s m e) md e) := Hsr.out.2.2.1.of_eq fun x h1 h2 => Hsub6.out.out x (.inr h1)
           have Hr2 : Hid (Sq.Srt (leK ks) (Sq.rot d s m e) e b) := Hsr.out.2.2.2.of_eq fun x h1 h2 => Hsub6.out.out x (.inr (by omega))
           have hfin := Hct.out.fin (leK_ordr ks) Hs1.out Hs2.out (by omega) (by rw [hEe]; exact Hsub6.out) Hsrt6.out (Sq.Sub.refl (Sq.rot d s m e) md b) (fun x y h1 h2 h3 => Hr2.out x y (by omega) h2 h3)
           have Hfin := Lib.hid hfin
           clear hfin
           go_wp2_with fail
           all_goals (go_end0; first | exact ⟨_, rfl, Hd6.out, Hfin.out.1, Hfin.out.2, Hk6.out⟩ | exact ⟨rfl, _, Hd6.out, Hfin.out.1, Hfin.out.2, Hk6.out⟩)
       ·skip
        have u3 : ¬ (s : Int) < (md : Int) := by omega
        have u4 : ¬ (m : Int) < (e : Int) := by omega
        by_cases bl : a < s
        ·skip
         have u5 : (a : Int) < (s : Int) := by omega
         by_cases bt : e < b
         ·skip
          have u6 : (e : Int) < (b : Int) := by omega
          ·skip
           have Hct := Lib.hid hct
           have Hsr := Lib.hid (hct.srts Hs1.out Hs2.out)
           have Hsx := Lib.hid (hct.ixs (fun x y => Hr.ix x < Hr.ix y) Hix.out)
           rw [hEe] at Hsr Hsx
           clear hct
           have Hd5 : Hid (Dat wr B g n (Sq.rot d s m e)) := by
            show Dat wr B g n (Sq.rot d s m e)
            rw [Sq.rot_id d (by omega) (by omega) (by omega)]
            exact Hd.out
           have Hk5 := Lib.hid Hk.out
           clear Hd Hk
           obtain ⟨w5, rfl⟩ : ∃ x : World, x = wr := ⟨_, rfl⟩
           have Hsrt6 : Hid (Sq.Srt (leK ks) (Sq.rot d s m e) a md) := fun x y h1 h2 h3 => Hsr.out.1 x y h1 h2 (by omega)
           have Hsub6 := Lib.hid (Sq.Sub.refl (Sq.rot d s m e) a md)
           have Hd6 := Lib.hid Hd5.out
           have Hk6 := Lib.hid Hk5.out
           clear Hd5 Hk5
           obtain ⟨w6, rfl⟩ : ∃ x : World, x = w5 := ⟨_, rfl⟩
           obtain ⟨d6, hd6⟩ : ∃ x : Nat → Hr, x = Sq.rot d s m e := ⟨_, rfl⟩
           have Hd6e := Lib.hid hd6
           clear hd6
           have Hr1 : Hid (Sq.Srt (leK ks) (Sq.rot d s m e) md e) := Hsr.out.2.2.1.of_eq fun x h1 h2 => Hsub6.out.out x (.inr h1)
           have Hr2 : Hid (Sq.Srt (leK ks) (Sq.rot d s m e) e b) := Hsr.out.2.2.2.of_eq fun x h1 h2 => Hsub6.out.out x (.inr (by omega))
           have hfin := Hct.out.fin (leK_ordr ks) Hs1.out Hs2.out (by omega) (by rw [hEe]; exact Hsub6.out) Hsrt6.out (Sq.Sub.refl (Sq.rot d s m e) md b) (fun x y h1 h2 h3 => Hr2.out x y (by omega) h2 h3)
           have Hfin := Lib.hid hfin
           clear hfin
           go_wp2_with fail
           all_goals (go_end0; first | exact ⟨_, rfl, Hd6.out, Hfin.out.1, Hfin.out.2, Hk6.out⟩ | exact ⟨rfl, _, Hd6.out, Hfin.out.1, Hfin.out.2, Hk6.out⟩)
         ·skip
          have u6 : ¬ (e : Int) < (b : Int) := by omega
          ·skip
           have Hct := Lib.hid hct
           have Hsr := Lib.hid (hct.srts Hs1.out Hs2.out)
           have Hsx := Lib.hid (hct.ixs (fun x y => Hr.ix x < Hr.ix y) Hix.out)
           rw [hEe] at Hsr Hsx
           clear hct
           have Hd5 : Hid (Dat wr B g n (Sq.rot d s m e)) := by
            show Dat wr B g n (Sq.rot d s m e)
            rw [Sq.rot_id d (by omega) (by omega) (by omega)]
            exact Hd.out
           have Hk5 := Lib.hid Hk.out
           clear Hd Hk
           obtain ⟨w5, rfl⟩ : ∃ x : World, x = wr := ⟨_, rfl⟩
           have Hsrt6 : Hid (Sq.Srt (leK ks) (Sq.rot d s m e) a md) := fun x y h1 h2 h3 => Hsr.out.1 x y h1 h2 (by omega)
           have Hsub6 := Lib.hid (Sq.Sub.refl (Sq.rot d s m e) a md)
           have Hd6 := Lib.hid Hd5.out
           have Hk6 := Lib.hid Hk5.out
           clear Hd5 Hk5
           obtain ⟨w6, rfl⟩ : ∃ x : World, x = w5 := ⟨_, rfl⟩
           obtain ⟨d6, hd6⟩ : ∃ x : Nat → Hr, x = Sq.rot d s m e := ⟨_, rfl⟩
           have Hd6e := Lib.hid hd6
           clear hd6
           have Hr1 : Hid (Sq.Srt (leK ks) (Sq.rot d s m e) md e) := Hsr.out.2.2.1.of_eq fun x h1 h2 => Hsub6.out.out x (.inr h1)
           have Hr2 : Hid (Sq.Srt (leK ks) (Sq.rot d s m e) e b) := Hsr.out.2.2.2.of_eq fun x h1 h2 => Hsub6.out.out x (.inr (by omega))
           have hfin := Hct.out.fin (leK_ordr ks) Hs1.out Hs2.out (by omega) (by rw [hEe]; exact Hsub6.out) Hsrt6.out (Sq.Sub.refl (Sq.rot d s m e) md b) (fun x y h1 h2 h3 => Hr2.out x y (by omega) h2 h3)
           have Hfin := Lib.hid hfin
           clear hfin
           go_wp2_with fail
           all_goals (go_end0; first | exact ⟨_, rfl, Hd6.out, Hfin.out.1, Hfin.out.2, Hk6.out⟩ | exact ⟨rfl, _, Hd6.out, Hfin.out.1, Hfin.out.2, Hk6.out⟩)
        ·skip
         have u5 : ¬ (a : Int) < (s : Int) := by omega
         by_cases bt : e < b
         ·skip
          have u6 : (e : Int) < (b : Int) := by omega
          ·skip
           have Hct := Lib.hid hct
           have Hsr := Lib.hid (hct.srts Hs1.out Hs2.out)
           have Hsx := Lib.hid (hct.ixs (fun x y => Hr.ix x < Hr.ix y) Hix.out)
           rw [hEe] at Hsr Hsx
           clear hct
           have Hd5 : Hid (Dat wr B g n (Sq.rot d s m e)) := by
            show Dat wr B g n (Sq.rot d s m e)
            rw [Sq.rot_id d (by omega) (by omega) (by omega)]
            exact Hd.out
           have Hk5 := Lib.hid Hk.out
           clear Hd Hk
           obtain ⟨w5, rfl⟩ : ∃ x : World, x = wr := ⟨_, rfl⟩
           have Hsrt6 : Hid (Sq.Srt (leK ks) (Sq.rot d s m e) a md) := fun x y h1 h2 h3 => Hsr.out.2.1 x y (by omega) h2 h3
           have Hsub6 := Lib.hid (Sq.Sub.refl (Sq.rot d s m e) a md)
           have Hd6 := Lib.hid Hd5.out
           have Hk6 := Lib.hid Hk5.out
           clear Hd5 Hk5
           obtain ⟨w6, rfl⟩ : ∃ x : World, x = w5 := ⟨_, rfl⟩
           obtain ⟨d6, hd6⟩ : ∃ x : Nat → Hr, x = Sq.rot d s m e := ⟨_, rfl⟩
           have Hd6e := Lib.hid hd6
           clear hd6
           have Hr1 : Hid (Sq.Srt (leK ks) (Sq.rot d s m e) md e) := Hsr.out.2.2.1.of_eq fun x h1 h2 => Hsub6.out.out x (.inr h1)
           have Hr2 : Hid (Sq.Srt (leK ks) (Sq.rot d s m e) e b) := Hsr.out.2.2.2.of_eq fun x h1 h2 => Hsub6.out.out x (.inr (by omega))
           have hfin := Hct.out.fin (leK_ordr ks) Hs1.out Hs2.out (by omega) (by rw [hEe]; exact Hsub6.out) Hsrt6.out (Sq.Sub.refl (Sq.rot d s m e) md b) (fun x y h1 h2 h3 => Hr2.out x y (by omega) h2 h3)
           have Hfin := Lib.hid hfin
           clear hfin
           go_wp2_with fail
           all_goals (go_end0; first | exact ⟨_, rfl, Hd6.out, Hfin.out.1, Hfin.out.2, Hk6.out⟩ | exact ⟨rfl, _, Hd6.out, Hfin.out.1, Hfin.out.2, Hk6.out⟩)
         ·skip
          have u6 : ¬ (e : Int) < (b : Int) := by omega
          ·skip
           have Hct := Lib.hid hct
           have Hsr := Lib.hid (hct.srts Hs1.out Hs2.out)
           have Hsx := Lib.hid (hct.ixs (fun x y => Hr.ix x < Hr.ix y) Hix.out)
           rw [hEe] at Hsr Hsx
           clear hct
           have Hd5 : Hid (Dat wr B g n (Sq.rot d s m e)) := by
            show Dat wr B g n (Sq.rot d s m e)
            rw [Sq.rot_id d (by omega) (by omega) (by omega)]
            exact Hd.out
           have Hk5 := Lib.hid Hk.out
           clear Hd Hk
           obtain ⟨w5, rfl⟩ : ∃ x : World, x = wr := ⟨_, rfl⟩
           have Hsrt6 : Hid (Sq.Srt (leK ks) (Sq.rot d s m e) a md) := fun x y h1 h2 h3 => Hsr.out.2.1 x y (by omega) h2 h3
           have Hsub6 := Lib.hid (Sq.Sub.refl (Sq.rot d s m e) a md)
           have Hd6 := Lib.hid Hd5.out
           have Hk6 := Lib.hid Hk5.out
           clear Hd5 Hk5
           obtain ⟨w6, rfl⟩ : ∃ x : World, x = w5 := ⟨_, rfl⟩
           obtain ⟨d6, hd6⟩ : ∃ x : Nat → Hr, x = Sq.rot d s m e := ⟨_, rfl⟩
           have Hd6e := Lib.hid hd6
           clear hd6
           have Hr1 : Hid (Sq.Srt (leK ks) (Sq.rot d s m e) md e) := Hsr.out.2.2.1.of_eq fun x h1 h2 => Hsub6.out.out x (.inr h1)
           have Hr2 : Hid (Sq.Srt (leK ks) (Sq.rot d s m e) e b) := Hsr.out.2.2.2.of_eq fun x h1 h2 => Hsub6.out.out x (.inr (by omega))
           have hfin := Hct.out.fin (leK_ordr ks) Hs1.out Hs2.out (by omega) (by rw [hEe]; exact Hsub6.out) Hsrt6.out (Sq.Sub.refl (Sq.rot d s m e) md b) (fun x y h1 h2 h3 => Hr2.out x y (by omega) h2 h3)
           have Hfin := Lib.hid hfin
           clear hfin
           go_wp2_with fail
           all_goals (go_end0; first | exact ⟨_, rfl, Hd6.out, Hfin.out.1, Hfin.out.2, Hk6.out⟩ | exact ⟨rfl, _, Hd6.out, Hfin.out.1, Hfin.out.2, Hk6.out⟩)
end Go.Proofs.YtcadjekcdokkjaaGreat
