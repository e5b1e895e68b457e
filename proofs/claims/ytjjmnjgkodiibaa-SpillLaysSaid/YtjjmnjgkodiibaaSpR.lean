/- The walks of the reference's page and Put. -/
import Derived.Test.YtjjmnjgkodiibaaSpU
import Derived.Test.YtjjmnjgkodiibaaRStX
namespace Go.Proofs.Ytjjmnjgkodiibaa
open Go.RowKit

attribute [local go_sem ↓] Go.wp_at_zero Go.wp_at_succ

theorem Keeps.low {T : List TypeId} {B B' : Nat} {w w' : World} (h : Keeps T B w w') (hB : B' ≤ B) : Keeps T B' w w' :=
  ⟨h.os, h.tape, h.output, h.size, fun k hk ht => h.block k hk (ht.imp (fun h => Nat.lt_of_lt_of_le h hB) id)⟩

/-- What a page more may turn. -/
abbrev RpT : List TypeId := 3 :: RefT

theorem rpage_no (B bs : Nat) (s : Pg.St) (I : Option Addr) (k ic : Nat) (A : Option Addr) (bn bc : Nat) (w : World) (hs : RSto w B bs s) (hB : B ≤ w.heap.size) (hf : Pg.free1 s = none) :
    Calls Try.prog 52 #[.pointer (some ⟨bs, 0, none⟩), .slice I k ic, .slice A bn bc] w fun e w' => e = .returned (.tuple #[.slice I k ic, .int .i64 4]) ∧ RSto w' B bs s ∧ Keeps RefT B w w' := by
  have hal := ralloc_c B bs s 1 w hs (by omega) (by omega) hB
  obtain ⟨e1, e2, e3⟩ := Pg.free1_none hf
  rw [e1, e2, e3] at hal
  have Hal := Lib.hid hal
  clear hal hs hf e1 e2 e3
  go_enter Try.func52, Try.ntmps52
  go_wp2_with fail
  refine Hal.out.mono ?_
  rintro e w1 ⟨A1, c1, rfl, ho1, hs1, hk1⟩
  go_wp2_with fail
  go_ret2
  exact ⟨rfl, hs1, hk1⟩

set_option maxHeartbeats 4000000 in
set_option maxRecDepth 100000 in
theorem rpage_yes (M B bs : Nat) (s : Pg.St) (l : List Nat) (I : Option Addr) (k ic : Nat) (A : Option Addr) (b : List UInt8) (bn bc i : Nat) (w : World) (hs : RSto w B bs s) (hB : B ≤ w.heap.size) (hM : M ≤ w.heap.size) (ho : Own w M 3 1 I k ic (Is l)) (hA : OwnX w M 5 A bn bc (Bs b)) (hb : bn ≤ 56) (hk : k ≤ 4096) (hsl : s.length ≤ 4096) (hf : Pg.free1 s = some i) :
    Calls Try.prog 52 #[.pointer (some ⟨bs, 0, none⟩), .slice I k ic, .slice A bn bc] w fun e w' => ∃ I' ic', e = .returned (.tuple #[.slice I' (k + 1) ic', .int .i64 0]) ∧ RSto w' B bs (s.set i (some (Pg.page i b))) ∧ Own w' M 3 1 I' (k + 1) ic' (Is (l ++ [i])) ∧ Turns (fun j => M ≤ j) RefT B w w' ∧ Keeps RpT 0 w w' := by
  have hal := ralloc_c B bs s 1 w hs (by omega) (by omega) hB
  obtain ⟨e1, e2, e3, hi, _⟩ := Pg.free1_some hf
  rw [e1, e2, e3] at hal
  have Hal := Lib.hid hal
  have hbl : b.length = bn := by have := hA.len; rwa [List.length_map] at this
  have hwr := Lib.hid (fun w' (hs' : RSto w' B bs (s.set i (some (Pg.page i [])))) (hr' : OwnX w' M 5 A bn bc (Bs b)) (hB' : B ≤ w'.heap.size) => rwrite_c B bs _ (i : Int) A b bn bc w' hs' (by omega) (by omega) hbl hr'.rd hB' (by omega))
  have hwe := Lib.hid (Pg.write_new (s := s) (i := i) (b := b) hi (by omega))
  have HA := Lib.hid hA
  have Ho := Lib.hid ho
  clear hal hs hf e1 e2 e3 hi hA hbl ho
  go_enter Try.func52, Try.ntmps52
  go_wp2_with fail
  refine Hal.out.mono ?_
  rintro e w1 ⟨A1, c1, rfl, ho1, hs1, hk1⟩
  have hA1 := HA.out.keeps (by decide) hk1
  have hI1 := Own.keeps Ho.out (by decide) hk1
  obtain ⟨g1, o1, rfl, hg1, _, _⟩ := ho1.rd.get (k := 0) (by simp)
  have ci := (own_first ho1).1
  have hz1 := hk1.size
  have hwr1 := Lib.hid (hwr.out w1 hs1 hA1 (by omega))
  have Ho1 := Lib.hid ho1
  have HI1 := Lib.hid hI1
  have Hk1 := Lib.hid hk1
  clear ho1 hs1 hk1 hA1 hI1 hwr Hal
  go_wp2_with fail
  refine hwr1.out.mono ?_
  rintro e w2 ⟨rfl, hs2, hk2⟩
  rw [hwe.out.2] at hs2
  have ho2 := Own.keeps Ho1.out (by decide) hk2
  have hI2 := Own.keeps HI1.out (by decide) hk2
  have ci2 := (own_first ho2).1
  have hg2 := (own_first ho2).2.2
  have hk02 := Hk1.out.trans hk2
  have hz2 := hk02.size
  have hbW : Below w2.heap.size w2 (w2.alloc (.cells #[.int .i64 (i : Int)] 3)) := (Below.refl _ _).alloc (Nat.le_refl _) _
  have hIW := Own.below hI2 hbW
  have HnW := (Blk.new w2 3 #[.int .i64 (i : Int)]).range
  have Hs2 := Lib.hid hs2
  have Hk02 := Lib.hid hk02
  clear hs2 hk2 ho2 hk02 ci
  go_wp2_with (first | (at_builtin; refine hold ?_) | (at_make; refine hold ?_))
  (with_reducible refine unhold ?_)
  refine wpList_apd rfl _ _ _ rfl Eint M I k ic (Is l) rfl hIW _ 1 _ [.int .i64 (i : Int)] rfl rfl (fun _ => ⟨_, _, rfl, HnW⟩) (by simp [Value.oneCell']) (k + 1) rfl (Is (l ++ [i])) (by simp) (by omega) (by omega) (Nat.le_trans (Nat.le_trans hM hz2) hbW.size) ?_
  intro A4 c4 w4 ho4 hg4 _
  have hkI := Own.apd_keeps hIW hg4
  have ht : Turns (fun j => M ≤ j) RefT B w w4 := (Turns.of_keeps Hk02.out).trans ((Turns.of_below hbW).trans (Turns.of_grown hg4 (fun x hx => hIW.row_ge x hx)))
  have hkk : Keeps RpT 0 w w4 := ((Hk02.out.more (by decide)).low (Nat.zero_le _)).trans (((Keeps.refl _ _ _).then_below hbW).trans ((hkI.more (by decide)).low (Nat.zero_le _)))
  have hs4 := (Hs2.out.below hbW).keeps hkI (by decide)
  go_wp2_with fail
  go_ret2
  exact ⟨A4, c4, rfl, hs4, ho4, ht, hkk⟩

theorem OwnX.row_ge {w : World} {base : Nat} {e : TypeId} {A : Option Addr} {n c : Nat} {xs : List Value} (h : OwnX w base e A n c xs) : ∀ k, A.map (·.block) = some k → base ≤ k := by
  intro k hk
  rcases h with ⟨rfl, _⟩ | ⟨g, off, ys, rfl, hb, _⟩
  · cases hk
  · injection hk with hk
    rw [← hk]
    exact hb

def sliceLen (v : Value) : Nat := match v with | .slice _ n _ => n | _ => 0

set_option maxHeartbeats 8000000 in
set_option maxRecDepth 100000 in
theorem rsput_c (B bs : Nat) (s : Pg.St) (rs : List RowM) (hs : List Value) (n c : Nat) (X : Option Addr) (w : World) (hsto : RSto w B bs s) (hB : B ≤ w.heap.size) (hn : rs.length = n) (hrows : ∀ w', Keeps RefT B w w' → Rd w' X hs ∧ Rows w' hs rs) (hn9 : n ≤ 1000) (hnc : n ≤ c) (hcm : c ≤ 9223372036854775807) (hsl : s.length ≤ 4096) :
    Calls Try.prog 24 #[.pointer (some ⟨bs, 0, none⟩), .slice X n c] w fun e w' => ∃ A' L c', e = .returned (.tuple #[.slice A' L c', .int .i64 (Pg.putRE s rs)]) ∧ (Pg.putRL s rs).length = L ∧ Own w' w.heap.size 3 1 A' L c' (Is (Pg.putRL s rs)) ∧ RSto w' B bs (Pg.putRS s rs) ∧ Keeps RefT B w w' := by
  have Hn := Lib.hid hn
  have Hsto := Lib.hid hsto
  have Hrows := Lib.hid hrows
  clear hn hsto hrows
  obtain ⟨M, hM⟩ : ∃ M, M = w.heap.size := ⟨_, rfl⟩
  rw [← hM]
  have hMw : M ≤ w.heap.size := Nat.le_of_eq hM
  have hwM : w.heap.size ≤ M := Nat.le_of_eq hM.symm
  clear hM
  have Hrun0 : Hid (Pg.run s [] [] rs = Pg.run s [] [] (rs.drop 0)) := by show _ = _; rw [List.drop_zero]
  go_enter Try.func24, Try.ntmps24
  go_wp2_with fail
  go_loopw [6, 7, 8, 9] (fun vb vi ve i wr => ∃ (j : Nat) (s1 : Pg.St) (l1 : List Nat) (b1 : List UInt8) (k1 ic1 n1 rc1 : Nat) (I1 R1 : Option Addr) (er : Int), j ≤ n ∧ i = .int .i64 j ∧ vb = .slice R1 n1 rc1 ∧ vi = .slice I1 k1 ic1 ∧ ve = .int .i64 er ∧ OwnX wr M 5 R1 n1 rc1 (Bs b1) ∧ Own wr M 3 1 I1 k1 ic1 (Is l1) ∧ RSto wr B bs s1 ∧ Turns (fun k => M ≤ k) RefT B w wr ∧ Pg.Mine s1 l1 ∧ s1.length ≤ 4096 ∧
      ((er = 0 ∧ n1 < 56 ∧ Hid (Pg.run s [] [] rs = Pg.run s1 l1 b1 (rs.drop j))) ∨ (er = 4 ∧ Hid (∃ b', Pg.run s [] [] rs = (s1, l1, b', 4))))) (fun _ _ _ i _ => n - (intOf i).toNat)
  case atStart => exact ⟨0, s, [], [], 0, 0, 0, 0, none, none, 0, by omega, rfl, rfl, rfl, rfl, OwnX.nil _ _ _, Own.nil _ _ _ _, Hsto.out, Turns.refl _ _ _ _, Pg.Mine.nil s, hsl, .inl ⟨rfl, by omega, Hrun0.out⟩⟩
  case round =>
    obtain ⟨j, s1, l1, b1, k1, ic1, n1, rc1, I1, R1, er, hj, rfl, rfl, rfl, rfl, hx1, ho1, hs1, ht1, hm1, hl1, hcase⟩ := hrel
    have hzr := ht1.size
    obtain ⟨hX, hR⟩ := Hrows.out wr (ht1.keeps (fun k hk => by omega))
    have hkl : l1.length = k1 := by
      have := ho1.1
      rw [Nat.mul_one, List.length_map] at this
      exact this
    have hk1 : k1 ≤ 4096 := by have := hm1.max; omega
    have hnl : b1.length = n1 := by have := hx1.len; rwa [List.length_map] at this
    rcases hcase with ⟨rfl, hn1, hrun⟩ | ⟨rfl, hbadr⟩
    · by_cases hlt : j < n
      · have hjl : j < rs.length := by rw [Hn.out]; exact hlt
        obtain ⟨gx, ox, E, d, rfl, hcx, hd1, hd2, hrE, hokE⟩ := hR.hdr hX hjl
        rw [run_drop hjl] at hrun
        generalize rs[j] = r at *
        generalize hrl : r.length = rl at *
        have Hrl := Lib.hid hrl
        clear hrl hjl
        have hd9 : rl ≤ 9223372036854775807 := by unfold maxLen at hd2; omega
        have hma := Lib.hid (may_any r rl d E wr Hrl.out hrE hd9)
        by_cases hmay : mayR r = 0
        · obtain ⟨h32, hall⟩ := may_right hmay
          have hle := rowB_le hall hokE h32
          have h32' : rl ≤ 32 := by have := Hrl.out; omega
          have hby := Lib.hid (fun w' (h : Rd w' E (rcells r)) => rrow_any r rl d E w' Hrl.out h (by omega) hall hokE)
          obtain ⟨s3, l3, b3, hlay⟩ : ∃ s3 l3 b3, Pg.lay s1 l1 (b1 ++ rowB r) = (s3, l3, b3) := ⟨_, _, _, rfl⟩
          have hon : Hid (b3.length < 56 → Pg.run s [] [] rs = Pg.run s3 l3 b3 (rs.drop (j + 1))) := fun hb => hrun.out.trans (Pg.run_on hmay hlay hb)
          have hno : Hid (56 ≤ b3.length → Pg.run s [] [] rs = (s3, l3, b3, 4)) := fun hb => hrun.out.trans (Pg.run_full hmay hlay hb)
          have Hlay := Lib.hid hlay
          rw [hmay] at hma
          generalize hL : (rowB r).length = L at hle
          have HL := Lib.hid hL
          have HrE := Lib.hid hrE
          have Hx1 := Lib.hid hx1
          have Ho1 := Lib.hid ho1
          have Hs1 := Lib.hid hs1
          have Ht1 := Lib.hid ht1
          clear hL hrE hokE hmay hlay hrun h32 hall hx1 ho1 hs1 ht1 hX hR
          go_wp2_with fail
          refine hma.out.mono ?_
          rintro e w2 ⟨rfl, hb2⟩
          have HrE2 := Lib.hid (HrE.out.below hb2)
          have hcx2 := cell_keep hb2 hcx
          have Hb2 := Lib.hid hb2
          clear hma hb2 HrE
          go_wp2_with fail
          refine (hby.out w2 HrE2.out).mono ?_
          rintro e w3 ⟨A3, L3, c3, rfl, hl3, ho3, hb3⟩
          obtain rfl : L3 = L := hl3.symm.trans HL.out
          have hb23 := Hb2.out.trans (hb3.mono Hb2.out.size)
          have hx3 := Hx1.out.below hb23
          have ht3 := Ht1.out.trans (Turns.of_below hb23)
          have hz3 := ht3.size
          have hI3 := Own.below Ho1.out hb23
          have hs3 := Hs1.out.below hb23
          have hr3 := ho3.rd
          clear hby Hx1 Ho1 Hs1 Ht1 Hb2 HrE2 hb3 ho3
          go_wp2_with (first | (at_builtin; refine hold ?_) | (at_make; refine hold ?_))
          (with_reducible refine unhold ?_)
          refine wpList_apx rfl _ _ _ rfl E8 M R1 n1 rc1 (Bs b1) rfl hx3 A3 L3 _ (Bs (rowB r)) rfl (by rw [List.length_map]; exact hl3) hr3 (Bs_one _) (n1 + L3) rfl (Bs (b1 ++ rowB r)) (by simp) (by omega) (by omega) (by omega) ?_
          intro A4 c4 w4 hx4 hg4 hat4
          have hk4 := hx3.apx_keeps hg4
          have hI4 := Own.keeps hI3 (by decide) hk4
          have hs4 := hs3.keeps hk4 (by decide)
          have ht4 := ht3.trans (Turns.of_grown hg4 (fun x hx => hx3.row_ge x hx))
          clear hx3 hI3 hs3 ht3 hr3 hg4 hat4 hk4 hb23 hl3 HL
          go_wp2_with fail
          go_loopw [6, 7, 8] (fun vb vi ve wr => ∃ (s2 : Pg.St) (l2 : List Nat) (b2 : List UInt8) (k2 ic2 n2 rc2 : Nat) (I2 R2 : Option Addr) (er : Int), vb = .slice R2 n2 rc2 ∧ vi = .slice I2 k2 ic2 ∧ ve = .int .i64 er ∧ OwnX wr M 5 R2 n2 rc2 (Bs b2) ∧ Own wr M 3 1 I2 k2 ic2 (Is l2) ∧ RSto wr B bs s2 ∧ Turns (fun k => M ≤ k) RefT B w wr ∧ Pg.Mine s2 l2 ∧ s2.length ≤ 4096 ∧ n2 ≤ 40000 ∧
              ((er = 0 ∧ Hid (Pg.lay s2 l2 b2 = (s3, l3, b3))) ∨ (er = 4 ∧ Hid (s2 = s3 ∧ l2 = l3 ∧ 56 ≤ b3.length)))) (fun vb _ _ _ => sliceLen vb)
          case atStart => exact ⟨s1, l1, _, k1, ic1, n1 + L3, c4, I1, A4, 0, rfl, rfl, rfl, hx4, hI4, hs4, ht4, hm1, hl1, by omega, .inl ⟨rfl, Hlay.out⟩⟩
          case round =>
            clear hx4 hI4 hs4 ht4 hm1 hl1 Hlay hnl hkl hk1
            obtain ⟨s2, l2, b2, k2, ic2, n2, rc2, I2, R2, er, rfl, rfl, rfl, hx2, ho2, hs2, ht2, hm2, hl2, hn2, hcase⟩ := hrel
            have hz2 := ht2.size
            have hkl2 : l2.length = k2 := by
              have := ho2.1
              rw [Nat.mul_one, List.length_map] at this
              exact this
            have hk2 : k2 ≤ 4096 := by have := hm2.max; omega
            have hnl2 : b2.length = n2 := by have := hx2.len; rwa [List.length_map] at this
            have hcap := hx2.cap
            rcases hcase with ⟨rfl, hlay2⟩ | ⟨rfl, hend⟩
            · by_cases h56 : 56 ≤ n2
              · obtain ⟨g, off, rfl, _, _⟩ := hx2.at_ (by omega)
                have hAt : OwnX wr M 5 (some ⟨g, off, none⟩) 56 rc2 (Bs (b2.take 56)) := by
                  have := hx2.take (k := 56) h56
                  rwa [← List.map_take] at this
                cases hf : Pg.free1 s2 with
                | none =>
                  have hp := Lib.hid (rpage_no B bs s2 I2 k2 ic2 (some ⟨g, off, none⟩) 56 rc2 wr hs2 (Nat.le_trans hB hz2) hf)
                  have hfin : Hid (s2 = s3 ∧ l2 = l3 ∧ 56 ≤ b3.length) := by
                    have e3 := (Pg.lay_no hf).symm.trans hlay2.out
                    injection e3 with e1 e3
                    injection e3 with e2 e3
                    exact ⟨e1, e2, by rw [← e3]; omega⟩
                  have Ht2 := Lib.hid ht2
                  have Hx2 := Lib.hid hx2
                  have Ho2 := Lib.hid ho2
                  have Hm2 := Lib.hid hm2
                  clear hs2 ht2 hAt hf hx2 ho2 hlay2 hm2
                  go_wp2_with fail
                  refine hp.out.mono ?_
                  rintro e w7 ⟨rfl, hs7, hk7⟩
                  have Hs7 := Lib.hid hs7
                  have Hx7 := Lib.hid (Hx2.out.keeps (by decide) hk7)
                  have Ho7 := Lib.hid (Own.keeps Ho2.out (by decide) hk7)
                  have Ht7 := Lib.hid (Ht2.out.trans (Turns.of_keeps hk7))
                  clear hs7 hk7 hp Hx2 Ho2 Ht2
                  by_cases hc : rc2 = 56
                  · obtain rfl : n2 = 56 := by omega
                    have hd := Hx7.out.dropAll
                    have hnil : b2.drop 56 = [] := List.drop_eq_nil_of_le (by omega)
                    have Hnil := Lib.hid hnil
                    clear hnil
                    subst hc
                    go_wp2_with fail
                    go_roundw
                    case rel => exact ⟨s2, l2, [], k2, ic2, 0, 0, I2, _, 4, rfl, rfl, rfl, hd, Ho7.out, Hs7.out, Ht7.out, Hm2.out, by first | exact hl2 | (rw [List.length_set]; exact hl2), by omega, .inr ⟨rfl, hfin.out⟩⟩
                    case measure => simp [sliceLen]
                  · have hd := Hx7.out.drop (k := 56) h56
                    rw [← List.map_drop] at hd
                    go_wp2_with fail
                    go_roundw
                    case rel => exact ⟨s2, l2, _, k2, ic2, n2 - 56, rc2 - 56, I2, _, 4, rfl, rfl, rfl, hd, Ho7.out, Hs7.out, Ht7.out, Hm2.out, by first | exact hl2 | (rw [List.length_set]; exact hl2), by omega, .inr ⟨rfl, hfin.out⟩⟩
                    case measure =>
                      show n2 - 56 < n2
                      omega
                | some i =>
                  have hp := Lib.hid (rpage_yes M B bs s2 l2 I2 k2 ic2 (some ⟨g, off, none⟩) (b2.take 56) 56 rc2 i wr hs2 (Nat.le_trans hB hz2) (Nat.le_trans hMw hz2) ho2 hAt (by omega) hk2 hl2 hf)
                  have hnext : Hid (Pg.lay s2 l2 b2 = Pg.lay (s2.set i (some (Pg.page i (b2.take 56)))) (l2 ++ [i]) (b2.drop 56)) := Pg.lay_yes (by omega) hf
                  have Hm2 := Lib.hid (hm2.step hf (b2.take 56))
                  have Ht2 := Lib.hid ht2
                  have Hx2 := Lib.hid hx2
                  clear hs2 ht2 hAt hf hx2 ho2 hm2
                  go_wp2_with fail
                  refine hp.out.mono ?_
                  rintro e w7 ⟨I7, ic7, rfl, hs7, ho7, ht7, hk7⟩
                  have Hs7 := Lib.hid hs7
                  have Hx7 := Lib.hid (Hx2.out.keeps (by decide) hk7)
                  have Ho7 := Lib.hid ho7
                  have Ht7 := Lib.hid (Ht2.out.trans ht7)
                  clear hs7 ho7 ht7 hk7 hp Hx2 Ht2
                  by_cases hc : rc2 = 56
                  · obtain rfl : n2 = 56 := by omega
                    have hd := Hx7.out.dropAll
                    have hnil : b2.drop 56 = [] := List.drop_eq_nil_of_le (by omega)
                    have Hnil := Lib.hid hnil
                    clear hnil
                    subst hc
                    go_wp2_with fail
                    go_roundw
                    case rel => exact ⟨s2.set i (some (Pg.page i (b2.take 56))), l2 ++ [i], [], k2 + 1, ic7, 0, 0, I7, _, 0, rfl, rfl, rfl, hd, Ho7.out, Hs7.out, Ht7.out, Hm2.out, by first | exact hl2 | (rw [List.length_set]; exact hl2), by omega, .inl ⟨rfl, by show _ = _; rw [← Hnil.out, ← hnext.out]; exact hlay2.out⟩⟩
                    case measure => simp [sliceLen]
                  · have hd := Hx7.out.drop (k := 56) h56
                    rw [← List.map_drop] at hd
                    go_wp2_with fail
                    go_roundw
                    case rel => exact ⟨s2.set i (some (Pg.page i (b2.take 56))), l2 ++ [i], _, k2 + 1, ic7, n2 - 56, rc2 - 56, I7, _, 0, rfl, rfl, rfl, hd, Ho7.out, Hs7.out, Ht7.out, Hm2.out, by first | exact hl2 | (rw [List.length_set]; exact hl2), by omega, .inl ⟨rfl, by show _ = _; rw [← hnext.out]; exact hlay2.out⟩⟩
                    case measure =>
                      show n2 - 56 < n2
                      omega
              · have hfin : Hid (s2 = s3 ∧ l2 = l3 ∧ b2 = b3) := by
                  have e3 := (Pg.lay_end (s := s2) (l := l2) (by omega)).symm.trans hlay2.out
                  injection e3 with e1 e3
                  injection e3 with e2 e3
                  exact ⟨e1, e2, e3⟩
                have Hs2 := Lib.hid hs2
                have Ht2 := Lib.hid ht2
                have Hx2 := Lib.hid hx2
                have Ho2 := Lib.hid ho2
                have Hm2 := Lib.hid hm2
                clear hs2 ht2 hx2 ho2 hm2 hlay2
                go_wp2_with fail
                obtain ⟨rfl, rfl, rfl⟩ := hfin.out
                go_roundw
                case rel => exact ⟨j + 1, s2, l2, b2, k2, ic2, n2, rc2, I2, R2, 0, by omega, by go_num, rfl, rfl, rfl, Hx2.out, Ho2.out, Hs2.out, Ht2.out, Hm2.out, hl2, .inl ⟨rfl, by omega, hon.out (by omega)⟩⟩
                case measure => simp [intOf]; omega
            · obtain ⟨rfl, rfl, hb56⟩ := hend.out
              have hfull : Hid (∃ b', Pg.run s [] [] rs = (s2, l2, b', 4)) := ⟨_, hno.out hb56⟩
              have Hs2 := Lib.hid hs2
              have Ht2 := Lib.hid ht2
              have Hx2 := Lib.hid hx2
              have Ho2 := Lib.hid ho2
              have Hm2 := Lib.hid hm2
              clear hs2 ht2 hx2 ho2 hm2 hend hb56
              by_cases h56 : 56 ≤ n2
              · go_wp2_with fail
                go_roundw
                case rel => exact ⟨j + 1, s2, l2, b2, k2, ic2, n2, rc2, I2, R2, 4, by omega, by go_num, rfl, rfl, rfl, Hx2.out, Ho2.out, Hs2.out, Ht2.out, Hm2.out, hl2, .inr ⟨rfl, hfull.out⟩⟩
                case measure => simp [intOf]; omega
              · go_wp2_with fail
                go_roundw
                case rel => exact ⟨j + 1, s2, l2, b2, k2, ic2, n2, rc2, I2, R2, 4, by omega, by go_num, rfl, rfl, rfl, Hx2.out, Ho2.out, Hs2.out, Ht2.out, Hm2.out, hl2, .inr ⟨rfl, hfull.out⟩⟩
                case measure => simp [intOf]; omega
        · have hfull : Pg.run s [] [] rs = (s1, l1, b1, mayR r) := hrun.out.trans (Pg.run_may hmay)
          have hbad := Lib.hid (Pg.putR_bad hfull hmay)
          have hne : (mayR r != 0) = true := bne_iff_ne.2 hmay
          have hne2 : (mayR r == 0) = false := beq_eq_false_iff_ne.2 hmay
          have Ht1 := Lib.hid ht1
          have Hs1 := Lib.hid hs1
          have Ho1 := Lib.hid ho1
          generalize mayR r = er at *
          clear hx1 ht1 hs1 ho1 hrE hokE hrun hfull hmay hX hR
          go_wp2_with fail
          refine hma.out.mono ?_
          rintro e w2 ⟨rfl, hb2⟩
          have Ht2 := Lib.hid (Ht1.out.trans (Turns.of_below hb2))
          have Hs2 := Lib.hid (Hs1.out.below hb2)
          have Ho2 := Lib.hid (Own.below Ho1.out hb2)
          clear hb2 hma Ht1 Hs1 Ho1
          go_wp2_with fail
          obtain ⟨we, hwe⟩ : ∃ x, x = w2 := ⟨_, rfl⟩
          rw [← hwe] at Ht2 Hs2 Ho2 ⊢
          clear hwe
          go_loopw [10] (fun i wr => ∃ q : Nat, q ≤ k1 ∧ i = .int .i64 q ∧ RSto wr B bs (Pg.dropS s1 ((l1.take q).map Int.ofNat)) ∧ Keeps RefT B we wr) (fun i _ => k1 - (intOf i).toNat)
          case atStart => exact ⟨0, by omega, rfl, Hs2.out, Keeps.refl _ _ _⟩
          case round =>
            obtain ⟨q, hq, rfl, hsq, hkq⟩ := hrel
            by_cases hlq : q < k1
            · obtain ⟨ga, oa, rfl, _, _, hca⟩ := (Own.keeps Ho2.out (by decide) hkq).rd.get (k := q) (by rw [List.length_map, hkl]; exact hlq)
              have hql : q < l1.length := by omega
              rw [List.getElem_map] at hca
              have htk := Lib.hid (List.take_succ_eq_append_getElem hql)
              have hbd := hm1.in_ _ (List.getElem_mem hql)
              generalize l1[q] = id at *
              have hfr := Lib.hid (rfree_c B bs _ (id : Int) _ hsq (by omega) (by omega))
              clear hsq hql
              go_wp2_with fail
              refine hfr.out.mono ?_
              rintro e w8 ⟨rfl, hs8, hk8⟩
              go_wp2_with fail
              go_roundw
              case rel =>
                refine ⟨q + 1, by omega, by go_num, ?_, hkq.trans hk8⟩
                rw [htk.out, List.map_append, List.map_cons, List.map_nil]
                rw [show Pg.dropS s1 ((l1.take q).map Int.ofNat ++ [Int.ofNat id]) = Pg.freeS (Pg.dropS s1 ((l1.take q).map Int.ofNat)) (id : Int) from Pg.dropS_snoc _ _ _]
                exact hs8
              case measure => simp [intOf]; omega
            · obtain rfl : q = k1 := by omega
              have htq : l1.take q = l1 := List.take_of_length_le (by omega)
              rw [htq] at hsq
              have Hsq := Lib.hid hsq
              have Hkq := Lib.hid hkq
              clear hsq hkq
              go_wp2_with fail
              go_ret2
              rw [hbad.out.1, hbad.out.2.1, hbad.out.2.2]
              exact ⟨none, 0, 0, rfl, rfl, Own.nil _ _ _ _, Hsq.out, (Ht2.out.keeps (fun k hk => by omega)).trans Hkq.out⟩
      · obtain rfl : j = n := by omega
        have hdn : rs.drop j = [] := List.drop_eq_nil_of_le (by rw [Hn.out]; exact Nat.le_refl _)
        rw [hdn] at hrun
        have hrun2 : Pg.run s [] [] rs = (s1, l1, b1, 0) := hrun.out.trans (by rw [Pg.run])
        clear hX hR hdn hrun
        by_cases h0 : n1 = 0
        · subst h0
          obtain rfl : b1 = [] := List.eq_nil_of_length_eq_zero hnl
          have hbad := Lib.hid (Pg.putR_none hrun2)
          have Ht1 := Lib.hid ht1
          have Hs1 := Lib.hid hs1
          have Ho1 := Lib.hid ho1
          clear hx1 ht1 hs1 ho1 hrun2
          go_wp2_with fail
          go_ret2
          rw [hbad.out.1, hbad.out.2.1, hbad.out.2.2]
          exact ⟨I1, k1, ic1, rfl, hkl, Ho1.out, Hs1.out, Ht1.out.keeps (fun k hk => by omega)⟩
        · have hne : b1 ≠ [] := fun e => h0 (by rw [← hnl, e]; rfl)
          have hnp : 0 < n1 := by omega
          cases hf : Pg.free1 s1 with
          | none =>
            have hbad := Lib.hid (Pg.putR_full hrun2 hne hf)
            have hp := Lib.hid (rpage_no B bs s1 I1 k1 ic1 R1 n1 rc1 wr hs1 (Nat.le_trans hB hzr) hf)
            have Ht1 := Lib.hid ht1
            have Ho1 := Lib.hid ho1
            clear hx1 ht1 hs1 ho1 hrun2 hf hne
            go_wp2_with fail
            refine hp.out.mono ?_
            rintro e w2 ⟨rfl, hs2, hk2⟩
            have Ht2 := Lib.hid (Ht1.out.trans (Turns.of_keeps hk2))
            have Hs2 := Lib.hid hs2
            have Ho2 := Lib.hid (Own.keeps Ho1.out (by decide) hk2)
            clear hs2 hk2 hp Ht1 Ho1
            go_wp2_with fail
            obtain ⟨we, hwe⟩ : ∃ x, x = w2 := ⟨_, rfl⟩
            rw [← hwe] at Ht2 Hs2 Ho2 ⊢
            clear hwe
            go_loopw [10] (fun i wr => ∃ q : Nat, q ≤ k1 ∧ i = .int .i64 q ∧ RSto wr B bs (Pg.dropS s1 ((l1.take q).map Int.ofNat)) ∧ Keeps RefT B we wr) (fun i _ => k1 - (intOf i).toNat)
            case atStart => exact ⟨0, by omega, rfl, Hs2.out, Keeps.refl _ _ _⟩
            case round =>
              obtain ⟨q, hq, rfl, hsq, hkq⟩ := hrel
              by_cases hlq : q < k1
              · obtain ⟨ga, oa, rfl, _, _, hca⟩ := (Own.keeps Ho2.out (by decide) hkq).rd.get (k := q) (by rw [List.length_map, hkl]; exact hlq)
                have hql : q < l1.length := by omega
                rw [List.getElem_map] at hca
                have htk := Lib.hid (List.take_succ_eq_append_getElem hql)
                have hbd := hm1.in_ _ (List.getElem_mem hql)
                generalize l1[q] = id at *
                have hfr := Lib.hid (rfree_c B bs _ (id : Int) _ hsq (by omega) (by omega))
                clear hsq hql
                go_wp2_with fail
                refine hfr.out.mono ?_
                rintro e w8 ⟨rfl, hs8, hk8⟩
                go_wp2_with fail
                go_roundw
                case rel =>
                  refine ⟨q + 1, by omega, by go_num, ?_, hkq.trans hk8⟩
                  rw [htk.out, List.map_append, List.map_cons, List.map_nil]
                  rw [show Pg.dropS s1 ((l1.take q).map Int.ofNat ++ [Int.ofNat id]) = Pg.freeS (Pg.dropS s1 ((l1.take q).map Int.ofNat)) (id : Int) from Pg.dropS_snoc _ _ _]
                  exact hs8
                case measure => simp [intOf]; omega
              · obtain rfl : q = k1 := by omega
                have htq : l1.take q = l1 := List.take_of_length_le (by omega)
                rw [htq] at hsq
                have Hsq := Lib.hid hsq
                have Hkq := Lib.hid hkq
                clear hsq hkq
                go_wp2_with fail
                go_ret2
                rw [hbad.out.1, hbad.out.2.1, hbad.out.2.2]
                exact ⟨none, 0, 0, rfl, rfl, Own.nil _ _ _ _, Hsq.out, (Ht2.out.keeps (fun k hk => by omega)).trans Hkq.out⟩
          | some i =>
            have hbad := Lib.hid (Pg.putR_some hrun2 hne hf)
            have hp := Lib.hid (rpage_yes M B bs s1 l1 I1 k1 ic1 R1 b1 n1 rc1 i wr hs1 (Nat.le_trans hB hzr) (Nat.le_trans hMw hzr) ho1 hx1 (by omega) hk1 hl1 hf)
            have Ht1 := Lib.hid ht1
            clear hx1 ht1 hs1 ho1 hrun2 hf hne
            go_wp2_with fail
            refine hp.out.mono ?_
            rintro e w2 ⟨I7, ic7, rfl, hs7, ho7, ht7, _⟩
            have Hs7 := Lib.hid hs7
            have Ho7 := Lib.hid ho7
            have Ht7 := Lib.hid (Ht1.out.trans ht7)
            clear hs7 ho7 ht7
            go_wp2_with fail
            go_ret2
            rw [hbad.out.1, hbad.out.2.1, hbad.out.2.2]
            exact ⟨I7, k1 + 1, ic7, rfl, by rw [List.length_append, hkl]; rfl, Ho7.out, Hs7.out, Ht7.out.keeps (fun k hk => by omega)⟩
    · obtain ⟨b', hfull⟩ := hbadr.out
      have hbad := Lib.hid (Pg.putR_bad hfull (by decide))
      have Ht1 := Lib.hid ht1
      have Hs1 := Lib.hid hs1
      have Ho1 := Lib.hid ho1
      clear hx1 ht1 hs1 ho1 hfull hbadr hX hR
      by_cases hlt : j < n
      · go_wp2_with fail
        obtain ⟨we, hwe⟩ : ∃ x, x = wr := ⟨_, rfl⟩
        rw [← hwe] at Ht1 Hs1 Ho1 ⊢
        clear hwe
        go_loopw [10] (fun i wr => ∃ q : Nat, q ≤ k1 ∧ i = .int .i64 q ∧ RSto wr B bs (Pg.dropS s1 ((l1.take q).map Int.ofNat)) ∧ Keeps RefT B we wr) (fun i _ => k1 - (intOf i).toNat)
        case atStart => exact ⟨0, by omega, rfl, Hs1.out, Keeps.refl _ _ _⟩
        case round =>
          obtain ⟨q, hq, rfl, hsq, hkq⟩ := hrel
          by_cases hlq : q < k1
          · obtain ⟨ga, oa, rfl, _, _, hca⟩ := (Own.keeps Ho1.out (by decide) hkq).rd.get (k := q) (by rw [List.length_map, hkl]; exact hlq)
            have hql : q < l1.length := by omega
            rw [List.getElem_map] at hca
            have htk := Lib.hid (List.take_succ_eq_append_getElem hql)
            have hbd := hm1.in_ _ (List.getElem_mem hql)
            generalize l1[q] = id at *
            have hfr := Lib.hid (rfree_c B bs _ (id : Int) _ hsq (by omega) (by omega))
            clear hsq hql
            go_wp2_with fail
            refine hfr.out.mono ?_
            rintro e w8 ⟨rfl, hs8, hk8⟩
            go_wp2_with fail
            go_roundw
            case rel =>
              refine ⟨q + 1, by omega, by go_num, ?_, hkq.trans hk8⟩
              rw [htk.out, List.map_append, List.map_cons, List.map_nil]
              rw [show Pg.dropS s1 ((l1.take q).map Int.ofNat ++ [Int.ofNat id]) = Pg.freeS (Pg.dropS s1 ((l1.take q).map Int.ofNat)) (id : Int) from Pg.dropS_snoc _ _ _]
              exact hs8
            case measure => simp [intOf]; omega
          · obtain rfl : q = k1 := by omega
            have htq : l1.take q = l1 := List.take_of_length_le (by omega)
            rw [htq] at hsq
            have Hsq := Lib.hid hsq
            have Hkq := Lib.hid hkq
            clear hsq hkq
            go_wp2_with fail
            go_ret2
            rw [hbad.out.1, hbad.out.2.1, hbad.out.2.2]
            exact ⟨none, 0, 0, rfl, rfl, Own.nil _ _ _ _, Hsq.out, (Ht1.out.keeps (fun k hk => by omega)).trans Hkq.out⟩
      · obtain rfl : j = n := by omega
        go_wp2_with fail
        obtain ⟨we, hwe⟩ : ∃ x, x = wr := ⟨_, rfl⟩
        rw [← hwe] at Ht1 Hs1 Ho1 ⊢
        clear hwe
        go_loopw [10] (fun i wr => ∃ q : Nat, q ≤ k1 ∧ i = .int .i64 q ∧ RSto wr B bs (Pg.dropS s1 ((l1.take q).map Int.ofNat)) ∧ Keeps RefT B we wr) (fun i _ => k1 - (intOf i).toNat)
        case atStart => exact ⟨0, by omega, rfl, Hs1.out, Keeps.refl _ _ _⟩
        case round =>
          obtain ⟨q, hq, rfl, hsq, hkq⟩ := hrel
          by_cases hlq : q < k1
          · obtain ⟨ga, oa, rfl, _, _, hca⟩ := (Own.keeps Ho1.out (by decide) hkq).rd.get (k := q) (by rw [List.length_map, hkl]; exact hlq)
            have hql : q < l1.length := by omega
            rw [List.getElem_map] at hca
            have htk := Lib.hid (List.take_succ_eq_append_getElem hql)
            have hbd := hm1.in_ _ (List.getElem_mem hql)
            generalize l1[q] = id at *
            have hfr := Lib.hid (rfree_c B bs _ (id : Int) _ hsq (by omega) (by omega))
            clear hsq hql
            go_wp2_with fail
            refine hfr.out.mono ?_
            rintro e w8 ⟨rfl, hs8, hk8⟩
            go_wp2_with fail
            go_roundw
            case rel =>
              refine ⟨q + 1, by omega, by go_num, ?_, hkq.trans hk8⟩
              rw [htk.out, List.map_append, List.map_cons, List.map_nil]
              rw [show Pg.dropS s1 ((l1.take q).map Int.ofNat ++ [Int.ofNat id]) = Pg.freeS (Pg.dropS s1 ((l1.take q).map Int.ofNat)) (id : Int) from Pg.dropS_snoc _ _ _]
              exact hs8
            case measure => simp [intOf]; omega
          · obtain rfl : q = k1 := by omega
            have htq : l1.take q = l1 := List.take_of_length_le (by omega)
            rw [htq] at hsq
            have Hsq := Lib.hid hsq
            have Hkq := Lib.hid hkq
            clear hsq hkq
            go_wp2_with fail
            go_ret2
            rw [hbad.out.1, hbad.out.2.1, hbad.out.2.2]
            exact ⟨none, 0, 0, rfl, rfl, Own.nil _ _ _ _, Hsq.out, (Ht1.out.keeps (fun k hk => by omega)).trans Hkq.out⟩
end Go.Proofs.Ytjjmnjgkodiibaa
