/- Walks: a stable sort in place: insertion. -/
import Derived.Test.YtghaffafglfdlaaSoW
namespace Go.Proofs.Ytghaffafglfdlaa
open Go.RowKit

attribute [local go_sem ↓] Go.wp_at_zero Go.wp_at_succ

set_option maxHeartbeats 8000000 in
set_option maxRecDepth 100000 in
theorem insert_c (kb g2 kc : Nat) (col : Int) (B g n c : Nat) (d : Nat → Hr) (a b : Nat) (w : World) (h : Dat w B g n d) (hK : KeyAt w kb g2 kc col) (hn : n ≤ 1000000) (hnc : n ≤ c) (h1 : a ≤ b) (h2 : b ≤ n) :
    Calls Try.prog 70 #[.slice (some ⟨g, 0, none⟩) n c, .int .i64 a, .int .i64 b, .func (Fn.func 43) #[] #[.pointer (some ⟨kb, 0, none⟩)]] w fun e w' => ∃ d', e = .returned (.tuple #[]) ∧ Dat w' B g n d' ∧ So.Sub d d' a b ∧ So.Srt (leR col) d' a b ∧ Keeps [28] B w w' := by
  have H := Lib.hid h
  have HK := Lib.hid hK
  clear h hK
  go_enter Try.func70, Try.ntmps70
  go_wp2_with fail
  go_loopw [8] (fun vi wr => ∃ (i : Nat) (d' : Nat → Hr), a + 1 ≤ i ∧ (i ≤ b ∨ i = a + 1) ∧ vi = .int .i64 i ∧ Hid (Dat wr B g n d') ∧ Hid (So.Sub d d' a b) ∧ Hid (So.Srt (leR col) d' a i) ∧ Hid (Keeps [28] B w wr)) (fun i _ => b - (intOf i).toNat)
  case atStart => exact ⟨a + 1, d, by omega, by omega, by go_num, H.out, So.Sub.refl _ _ _, fun i j x y z => by omega, Keeps.refl _ _ _⟩
  case round =>
    obtain ⟨i, d', hi1, hi2, rfl, Hd, Hs, Ho, Hk⟩ := hrel
    by_cases hlt : i < b
    · have Hins := Lib.hid (So.Ins.start Ho.out (by omega : a ≤ i))
      obtain ⟨wq, rfl⟩ : ∃ x : World, x = wr := ⟨_, rfl⟩
      clear Ho
      go_wp2_with fail
      go_loopw [9] (fun vj wr => ∃ (j : Nat) (d2 : Nat → Hr), a ≤ j ∧ j ≤ i ∧ vj = .int .i64 j ∧ Hid (Dat wr B g n d2) ∧ Hid (So.Sub d d2 a b) ∧ Hid (So.Ins (leR col) d2 a i j) ∧ Hid (Keeps [28] B w wr)) (fun j _ => (intOf j).toNat)
      case atStart => exact ⟨i, d', by omega, by omega, rfl, Hd.out, Hs.out, Hins.out, Hk.out⟩
      case round =>
        clear Hd Hs Hins Hk
        obtain ⟨j, d2, hj1, hj2, rfl, Hd, Hs, Hins, Hk⟩ := hrel
        by_cases hgt : a < j
        · obtain ⟨p, rfl⟩ : ∃ p, j = p + 1 := ⟨j - 1, by omega⟩
          have hq : p + 1 < n := by omega
          have hp : p < n := by omega
          have ca := Hd.out.cell hq
          have cb := Hd.out.cell hp
          have fa := Hd.out.blk.frozen (p + 1)
          have fb := Hd.out.blk.frozen p
          obtain ⟨A1, c1, e1, o1, _⟩ := Hd.out.row (p + 1) hq
          obtain ⟨A2, c2, e2, o2, _⟩ := Hd.out.row p hp
          have hcl := scmp_any (d2 (p + 1)).2 (d2 p).2 _ c1 _ c2 A1 A2 kb g2 kc col wr.drew rfl rfl (o1.rd.below (Below.refl _ _).drew) (o2.rd.below (Below.refl _ _).drew) ((HK.out.keeps Hk.out).below (Below.refl _ _).drew)
          have hle := oneV_leR col (d2 (p + 1)) (d2 p)
          rw [e1] at ca
          rw [e2] at cb
          have hswp : Hid (∀ w3, Below wr.heap.size wr w3 → Dat ((w3.setCell ⟨g, p + 1, none⟩ (.slice A2 (d2 p).2.length c2)).setCell ⟨g, p, none⟩ (.slice A1 (d2 (p + 1)).2.length c1)) B g n (So.swp d2 (p + 1) p) ∧ Keeps [28] B w3 ((w3.setCell ⟨g, p + 1, none⟩ (.slice A2 (d2 p).2.length c2)).setCell ⟨g, p, none⟩ (.slice A1 (d2 (p + 1)).2.length c1))) := fun w3 hb => by
            have := (Hd.out.below hb).swap hq hp
            rw [e1, e2] at this
            exact this
          generalize oneV (colAt (d2 (p + 1)).2 col) (colAt (d2 p).2 col) = R at *
          generalize (d2 (p + 1)).2.length = l1 at *
          generalize (d2 p).2.length = l2 at *
          have Hcl := Lib.hid hcl
          have Hle := Lib.hid hle
          have cad : wr.drew.cell? ⟨g, p + 1, none⟩ = some (.slice A1 l1 c1) := ca
          have cbd : wr.drew.cell? ⟨g, p, none⟩ = some (.slice A2 l2 c2) := cb
          have hgtI : (a : Int) < (p : Int) + 1 := by omega
          have w1 : IntKind.i64.wrap ((p : Int) + 1 - 1) = (p : Int) := by rw [IntKind.wrap_i64]; omega
          have w2 : IntKind.i64.wrap (p : Int) = (p : Int) := by rw [IntKind.wrap_i64]; omega
          have w1' : (p : Int) + 1 - 1 = (p : Int) := by omega
          have t1 : ((p : Int) + 1).toNat = p + 1 := by omega
          have i1 : (0 : Int) ≤ (p : Int) + 1 := by omega
          have j1 : (p : Int) + 1 < (n : Int) := by omega
          have i2 : (0 : Int) ≤ (p : Int) := by omega
          have j2 : (p : Int) < (n : Int) := by omega
          clear hcl hle e1 e2 o1 o2
          go_wp2_with fail
          go_region_held3 (fun w' => w'.cell? ⟨g, p + 1, none⟩ = some (.slice A1 l1 c1) ∧ w'.cell? ⟨g, p, none⟩ = some (.slice A2 l2 c2))
            (first | assumption | exact ⟨ca, cb⟩ | exact ⟨cad, cbd⟩ | exact ⟨ca3, cb3⟩)
            (first | (go_at_call 43; refine Hcl.out.mono ?_; rintro e w3 ⟨rfl, hb3⟩; have ca3 := cell_keep hb3 cad; have cb3 := cell_keep hb3 cbd))
          have hb3' : Below wr.heap.size wr w3 := (Below.refl _ _).drew.trans hb3
          have Hd3 := Lib.hid (Hd.out.below hb3')
          have Hk3 := Lib.hid (Hk.out.then_below hb3')
          have Hsw := Lib.hid (hswp.out w3 hb3')
          have hhi := Hins.out.hi
          clear hb3 hb3' hswp Hcl Hk ca cb cad cbd fa fb
          by_cases hneg : R < 0
          · have fa := Hd3.out.blk.frozen (p + 1)
            have fb := Hd3.out.blk.frozen p
            have hst := Lib.hid (So.Ins.step (leR_ordr col) Hins.out (by omega) (Hle.out.1 hneg))
            have hsb := Lib.hid (Hs.out.trans (So.swp_sub d2 (lo := a) (hi := b) (i := p + 1) (j := p) (by omega) (by omega)))
            go_wp2_with fail
            go_region
            clear w1 w2 w1' t1 i1 j1 i2 j2
            go_wp2_with fail
            go_roundw
            case rel => exact ⟨p, _, by omega, by omega, by go_num, Hsw.out.1.below (Below.refl _ _).drew, hsb.out, hst.out, (Hk3.out.trans Hsw.out.2).then_below (Below.refl _ _).drew⟩
            case measure => simp [intOf]
          · have hsr : Hid (So.Srt (leR col) d2 a (i + 1)) := So.Ins.done (leR_ordr col) Hins.out (.inr ⟨by omega, Classical.byContradiction fun h => hneg (Hle.out.2 h)⟩)
            clear w1 w2 w1' t1 i1 j1 i2 j2
            go_wp2_with fail
            go_roundw
            case rel => exact ⟨i + 1, d2, by omega, by omega, by go_num, Hd3.out, Hs.out, hsr.out, Hk3.out⟩
            case measure => simp [intOf]; omega
        · have hja : j = a := by omega
          have hsr : Hid (So.Srt (leR col) d2 a (i + 1)) := So.Ins.done (leR_ordr col) Hins.out (.inl hja)
          have hd0 : decide ((a : Int) < (j : Int)) = false := decide_eq_false (by omega)
          have hn0 : ¬ (a : Int) < (j : Int) := by omega
          clear hja
          go_wp2_with fail
          go_region
          go_wp2_with fail
          go_roundw
          case rel => exact ⟨i + 1, d2, by omega, by omega, by go_num, Hd.out.below (Below.refl _ _).drew, Hs.out, hsr.out, Hk.out.then_below (Below.refl _ _).drew⟩
          case measure => simp [intOf]; omega
    · have hfin : So.Srt (leR col) d' a b := Ho.out.part (Nat.le_refl _) (by omega)
      go_wp2_with fail
      go_end0
      exact ⟨d', rfl, Hd.out, Hs.out, hfin, Hk.out⟩
end Go.Proofs.Ytghaffafglfdlaa
