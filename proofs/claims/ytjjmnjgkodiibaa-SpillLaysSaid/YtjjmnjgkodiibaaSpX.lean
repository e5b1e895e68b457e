/- The walk of SpillLays. -/
import Derived.Test.YtjjmnjgkodiibaaSpN
import Derived.Test.YtjjmnjgkodiibaaSpR
namespace Go.Proofs.Ytjjmnjgkodiibaa
open Go.RowKit

attribute [local go_sem ↓] Go.wp_at_zero Go.wp_at_succ

set_option maxHeartbeats 8000000 in
set_option maxRecDepth 100000 in
theorem lays_walk (rs : List RowM) (hs : List Value) (n c mo tk : Nat) (X : Option Addr) (w : World) (hn : rs.length = n) (hnc : n ≤ c) (hc : c ≤ 9223372036854775807) (hX : Rd w X hs) (hR : Rows w hs rs) (hmo : mo < 65536) (htk : tk < 256) :
    Calls Try.prog 4 #[.slice X n c, .int .u16 (mo : Int), .int .u8 (tk : Int)] w fun e w' => e = .returned (.bool true) ∧ Below w.heap.size w w' := by
  have Hn := Lib.hid hn
  clear hn
  obtain ⟨N, hN, hN3⟩ : ∃ N : Nat, (mo : Int) % 301 = (N : Int) ∧ N ≤ 300 := ⟨mo % 301, by omega, by omega⟩
  have hN2 : (mo : Int).tmod 301 = (N : Int) := by rw [Int.tmod_eq_emod_of_nonneg (by omega)]; exact hN
  have hmin : min (tk : Int) (N : Int) = ((min tk N : Nat) : Int) := by omega
  have hle1 : min tk N ≤ N := Nat.min_le_right _ _
  go_enter Try.func4, Try.ntmps4
  go_wp2_with fail
  refine (shown17 w).mono ?_
  rintro e w1 ⟨rfl, hb1⟩
  go_wp2_with fail
  refine (new_yes N w1 (by omega)).mono ?_
  rintro e w2 ⟨bs, rfl, hs2, hb2⟩
  go_wp2_with fail
  refine (rnew_yes N w2 (by omega)).mono ?_
  rintro e w3 ⟨br, rfl, hs3, hb3⟩
  have hz1 := hb1.size
  have hz2 := hb2.size
  have hz3 := hb3.size
  have Hs3 := Lib.hid (hs2.below hb3)
  have Hr3 := Lib.hid hs3
  have Hb03 := Lib.hid ((hb1.trans (hb2.mono hz1)).trans (hb3.mono (by omega)))
  have hl0 : (List.replicate N none : Pg.St).length = N := List.length_replicate
  generalize (List.replicate N none : Pg.St) = s0 at *
  clear hb1 hb2 hb3 hs2 hs3
  by_cases htN : tk ≤ N
  · have hKN : tk ≤ N := by omega
    have hal := alloc_c w1.heap.size bs s0 (tk : Nat) w3 Hs3.out (by omega) (by omega) (by omega)
    have Hal := Lib.hid hal
    clear hal hmin hle1
    go_wp2_with fail
    refine Hal.out.mono ?_
    rintro e w4 ⟨A4, c4, rfl, _, hs4, hk4⟩
    have hz4 := hk4.size
    have Hb04 := Lib.hid (Hb03.out.trans ((hk4.below (B := w1.heap.size) (by omega)).mono hz1))
    have hra := Lib.hid (ralloc_c w2.heap.size br s0 (tk : Nat) w4 (Hr3.out.keeps hk4 (by decide)) (by omega) (by omega) (by omega))
    have Hs4 := Lib.hid hs4
    have Hx4 := Lib.hid hs4
    clear hs4 hk4 Hal Hs3 Hr3 Hb03 Hx4
    go_wp2_with fail
    refine hra.out.mono ?_
    rintro e w5 ⟨A5, c5, rfl, _, hr5, hk5⟩
    have hz5 := hk5.size
    have Hs5 := Lib.hid (Hs4.out.keeps hk5 (by decide))
    have Hr5 := Lib.hid hr5
    have Hb05 := Lib.hid (Hb04.out.trans ((hk5.below (B := w2.heap.size) (by omega)).mono (by omega)))
    have hl1 : (Pg.allocS s0 (tk : Nat)).length = N := by rw [Pg.length_allocS, hl0]
    generalize Pg.allocS s0 (tk : Nat) = s1 at *
    clear hr5 hk5 hra Hs4 Hb04
    go_wp2_with fail
    refine (few17 rs hs n c X w5 Hn.out hnc hc (hX.below Hb05.out) (hR.below Hb05.out)).mono ?_
    rintro e w6 ⟨⟨k, hk, hfew, rfl⟩, hb6⟩
    have hz6 := hb6.size
    have Hb06 := Lib.hid (Hb05.out.trans (hb6.mono Hb05.out.size))
    have Hs6 := Lib.hid (Hs5.out.below hb6)
    have Hr6 := Lib.hid (Hr5.out.below hb6)
    have hxl : (rs.take k).length = k := by rw [List.length_take, Hn.out]; omega
    have hXk : Rd w X (hs.take k) := rdTake hX k
    have hRk := hR.take k
    generalize rs.take k = xs at *
    generalize hs.take k = js at *
    have hk60 : k ≤ 60 := by have := hfew.len; omega
    have Hrows : Hid (∀ w', Below w.heap.size w w' → Rd w' X js ∧ Rows w' js xs) := fun w' hb => ⟨hXk.below hb, hRk.below hb⟩
    have HRk := Lib.hid hRk
    have Hxl := Lib.hid hxl
    have hput := Lib.hid (sput_c w1.heap.size bs s1 xs js k c X w6 Hs6.out (by omega) hxl (fun w' hk => Hrows.out w' (Hb06.out.trans ((hk.below (by omega)).mono (by omega)))) (by omega) (by omega) (by omega))
    clear hX hR hXk hRk hfew hb6 Hs5 Hr5 Hb05 hxl Hn
    go_wp2_with fail
    refine hput.out.mono ?_
    rintro e w7 ⟨hp7, hs7, hk7⟩
    have hz7 := hk7.size
    have Hb07 := Lib.hid (Hb06.out.trans ((hk7.below (B := w1.heap.size) (by omega)).mono (by omega)))
    have hrp := Lib.hid (rsput_c w2.heap.size br s1 xs js k c X w7 (Hr6.out.keeps hk7 (by decide)) (by omega) Hxl.out (fun w' hk => Hrows.out w' (Hb07.out.trans ((hk.below (by omega)).mono (by omega)))) (by omega) (by omega) (by omega) (by omega))
    have Hs7 := Lib.hid hs7
    clear hs7 hk7 hput Hs6 Hr6 Hb06
    have hl2 : (Pg.putRS s1 xs).length = N := by rw [Pg.putRS_len, hl1]
    rcases hp7 with ⟨hE, bf, q, ic, I, rfl, hf7⟩ | ⟨hE, rfl⟩
    · rw [hE] at hrp
      have hq := hf7.klen
      have Hf7 := Lib.hid hf7
      have Hq := Lib.hid hq
      have hq9 : q ≤ 4096 := by have := (Pg.putRL_mine s1 xs hE).max; omega
      clear hE hf7 hq
      generalize Pg.putRL s1 xs = l at *
      generalize Pg.putRS s1 xs = s2 at *
      go_wp2_with fail
      refine hrp.out.mono ?_
      rintro e w8 ⟨A8, L8, c8, rfl, hL8, ho8, hr8, hk8⟩
      obtain rfl : L8 = q := hL8.symm.trans Hq.out
      have hz8 := hk8.size
      have Hs8 := Lib.hid (Hs7.out.keeps hk8 (by decide))
      have Hr8 := Lib.hid hr8
      have Hf8 := Lib.hid (Hf7.out.keeps (by decide) hk8)
      have Hb08 := Lib.hid (Hb07.out.trans ((hk8.below (B := w2.heap.size) (by omega)).mono (by omega)))
      have Ho8 := Lib.hid ho8
      have hu := Lib.hid (used_c w1.heap.size bs s2 w8 Hs8.out)
      have hru := Lib.hid (rused_c w2.heap.size br s2 w8 Hr8.out)
      have hpg := Lib.hid (pages_c _ bs bf _ _ _ _ _ w8 Hf8.out (by omega))
      clear hL8 ho8 hr8 hk8 hrp Hs7 Hf7 Hb07
      go_wp2_with fail
      refine hu.out.mono ?_
      rintro e w' ⟨rfl, rfl⟩
      go_wp2_with fail
      refine hru.out.mono ?_
      rintro e w' ⟨rfl, rfl⟩
      go_wp2_with fail
      refine hpg.out.mono ?_
      rintro e w9 ⟨A9, c9, rfl, ho9, hb9⟩
      have hin := ints_any (l.map Int.ofNat) (l.map Int.ofNat) L8 L8 A9 A8 c9 c8 w9 (by rw [List.length_map]; exact Hq.out) (by rw [List.length_map]; exact Hq.out) (by rw [Js_Is]; exact ho9.rd) (by rw [Js_Is]; exact (Own.below Ho8.out hb9).rd) (by omega) (by omega)
      rw [decide_eq_true rfl] at hin
      have Hin := Lib.hid hin
      have Hs9 := Lib.hid (Hs8.out.below hb9)
      have Hr9 := Lib.hid (Hr8.out.below hb9)
      have Hf9 := Lib.hid (Hf8.out.below hb9)
      have Hb09 := Lib.hid (Hb08.out.trans (hb9.mono Hb08.out.size))
      clear hin ho9 hb9 Hs8 Hr8 Hf8 Hb08 Ho8 hu hru hpg
      go_wp2_with fail
      refine Hin.out.mono ?_
      rintro e wx ⟨rfl, d, rfl⟩
      have hmy := Lib.hid (fmany_c _ bs bf _ _ _ _ _ (w9.drewN d) (Hf9.out.below (below_drewN' (Below.refl _ _) d)))
      have HsA := Lib.hid (Hs9.out.drewN d)
      have HrA := Lib.hid (Hr9.out.drewN d)
      have HbA := Lib.hid (below_drewN' Hb09.out d)
      generalize w9.drewN d = wA at *
      clear Hs9 Hr9 Hf9 Hb09 Hin
      go_wp2_with fail
      refine hmy.out.mono ?_
      rintro e w' ⟨rfl, rfl⟩
      clear hmy
      go_wp2_with fail
      go_loopw [105] (fun i wr => ∃ j : Nat, j ≤ N ∧ i = .int .i64 j ∧ Below wA.heap.size wA wr) (fun i _ => N - (intOf i).toNat)
      case atStart => exact ⟨0, by omega, rfl, Below.refl _ _⟩
      case round =>
        obtain ⟨j, hj, rfl, hbj⟩ := hrel
        by_cases hlt : j < N
        · have hraw := Lib.hid (raw_c w1.heap.size bs s2 (j : Int) wr (HsA.out.below hbj) (by omega) (by omega))
          have hrraw := Lib.hid (fun w' (hb : Below wr.heap.size wr w') => rraw_c w2.heap.size br s2 (j : Int) w' ((HrA.out.below hbj).below hb) (by omega) (by omega))
          generalize Pg.rawB s2 (j : Int) = X at *
          generalize Pg.rawE s2 (j : Int) = EX at *
          generalize hXl : X.length = xl at *
          have HXl := Lib.hid hXl
          clear hXl
          go_wp2_with fail
          refine hraw.out.mono ?_
          rintro e wb ⟨Ab, cb, rfl, hob, hbb⟩
          have hrw := Lib.hid (hrraw.out wb hbb)
          have Hbb := Lib.hid (hbj.trans (hbb.mono hbj.size))
          have hcv := run_str wb Ab X xl cb HXl.out hob.rd
          clear hraw hrraw hob hbb
          go_wp2_with fail
          refine hrw.out.mono ?_
          rintro e w' ⟨rfl, rfl⟩
          go_wp2_with fail
          go_roundw
          case rel => exact ⟨j + 1, by omega, by go_num, Hbb.out⟩
          case measure => simp [intOf]; omega
        · obtain rfl : j = N := by omega
          have Hbr := Lib.hid (HbA.out.trans (hbj.mono HbA.out.size))
          have hrow := Hrows.out _ Hbr.out
          have hlaid := Lib.hid (laid17 w xs js k c X _ Hbr.out Hxl.out hrow.1 HRk.out (by omega))
          have hlen := laidR_len xs
          have hmay := Lib.hid (laidR_may xs)
          have hxk : xs.length ≤ 60 := by rw [Hxl.out]; exact hk60
          generalize laidR xs = ys at *
          clear hrow hbj HsA HrA HbA
          go_wp2_with fail
          refine hlaid.out.mono ?_
          rintro e wl ⟨Al, Ll, cl, hs', rfl, hLl, hol, hRl, hbl⟩
          have Hbl := Lib.hid (Hbr.out.trans (hbl.mono Hbr.out.size))
          have hcb := Lib.hid (cbytes_any ys hs' Ll cl Al wl hLl hol.rd (hRl.below Hbl.out) (by omega) hmay.out)
          have hrb := Lib.hid (fun w' (hb : Below wl.heap.size wl w') => rbytes_any ys hs' Ll cl Al w' hLl (hol.rd.below hb) ((hRl.below Hbl.out).below hb) (by omega) hmay.out)
          generalize rowsB ys = T at *
          generalize hTl : T.length = tl at *
          have HTl := Lib.hid hTl
          clear hTl hlaid hol hRl hbl Hbr hLl hlen hxk
          go_wp2_with fail
          refine hcb.out.mono ?_
          rintro e wm ⟨rfl, hbm⟩
          have hrbm := Lib.hid (hrb.out wm hbm)
          have Hbm := Lib.hid (Hbl.out.trans (hbm.mono Hbl.out.size))
          clear hcb hrb hbm
          go_wp2_with fail
          refine hrbm.out.mono ?_
          rintro e wn ⟨An, Ln, cn, rfl, hLn, _, hbn⟩
          obtain rfl : tl = Ln := by first | exact hLn | exact HTl.out.symm.trans hLn
          have Hbn := Lib.hid (Hbm.out.trans (hbn.mono Hbm.out.size))
          clear hrbm hbn hLn
          go_wp2_with fail
          go_ret
          exact ⟨rfl, Hbn.out⟩
    · have hL0 : Pg.putRL s1 xs = [] := by unfold Pg.putRL; rw [if_neg hE]
      rw [hL0] at hrp
      have hE1 : (Pg.putRE s1 xs == 0) = false := beq_eq_false_iff_ne.2 hE
      clear hL0 hE
      generalize Pg.putRE s1 xs = E at *
      generalize Pg.putRS s1 xs = s2 at *
      go_wp2_with fail
      refine hrp.out.mono ?_
      rintro e w8 ⟨A8, L8, c8, rfl, hL8, ho8, hr8, hk8⟩
      obtain rfl : 0 = L8 := hL8
      have hz8 := hk8.size
      have Hs8 := Lib.hid (Hs7.out.keeps hk8 (by decide))
      have Hr8 := Lib.hid hr8
      have Hb08 := Lib.hid (Hb07.out.trans ((hk8.below (B := w2.heap.size) (by omega)).mono (by omega)))
      have hu := Lib.hid (used_c w1.heap.size bs s2 w8 Hs8.out)
      have hru := Lib.hid (rused_c w2.heap.size br s2 w8 Hr8.out)
      clear ho8 hr8 hk8 hrp Hs7 Hb07
      go_wp2_with fail
      refine hu.out.mono ?_
      rintro e w' ⟨rfl, rfl⟩
      go_wp2_with fail
      refine hru.out.mono ?_
      rintro e w' ⟨rfl, rfl⟩
      go_wp2_with fail
      refine (pages_nil w8).mono ?_
      rintro e w' ⟨rfl, rfl⟩
      have hin := ints_any [] [] 0 0 none A8 0 c8 w8 rfl rfl (Rd.nil _ _) (Rd.nil _ _) (by omega) (by omega)
      rw [decide_eq_true rfl] at hin
      have Hin := Lib.hid hin
      clear hin hu hru
      go_wp2_with fail
      refine Hin.out.mono ?_
      rintro e wx ⟨rfl, d, rfl⟩
      have HsA := Lib.hid (Hs8.out.drewN d)
      have HrA := Lib.hid (Hr8.out.drewN d)
      have HbA := Lib.hid (below_drewN' Hb08.out d)
      generalize w8.drewN d = wA at *
      clear Hs8 Hr8 Hb08 Hin
      go_wp2_with fail
      go_loopw [105] (fun i wr => ∃ j : Nat, j ≤ N ∧ i = .int .i64 j ∧ Below wA.heap.size wA wr) (fun i _ => N - (intOf i).toNat)
      case atStart => exact ⟨0, by omega, rfl, Below.refl _ _⟩
      case round =>
        obtain ⟨j, hj, rfl, hbj⟩ := hrel
        by_cases hlt : j < N
        · have hraw := Lib.hid (raw_c w1.heap.size bs s2 (j : Int) wr (HsA.out.below hbj) (by omega) (by omega))
          have hrraw := Lib.hid (fun w' (hb : Below wr.heap.size wr w') => rraw_c w2.heap.size br s2 (j : Int) w' ((HrA.out.below hbj).below hb) (by omega) (by omega))
          generalize Pg.rawB s2 (j : Int) = X at *
          generalize Pg.rawE s2 (j : Int) = EX at *
          generalize hXl : X.length = xl at *
          have HXl := Lib.hid hXl
          clear hXl
          go_wp2_with fail
          refine hraw.out.mono ?_
          rintro e wb ⟨Ab, cb, rfl, hob, hbb⟩
          have hrw := Lib.hid (hrraw.out wb hbb)
          have Hbb := Lib.hid (hbj.trans (hbb.mono hbj.size))
          have hcv := run_str wb Ab X xl cb HXl.out hob.rd
          clear hraw hrraw hob hbb
          go_wp2_with fail
          refine hrw.out.mono ?_
          rintro e w' ⟨rfl, rfl⟩
          go_wp2_with fail
          go_roundw
          case rel => exact ⟨j + 1, by omega, by go_num, Hbb.out⟩
          case measure => simp [intOf]; omega
        · obtain rfl : j = N := by omega
          have Hbr := Lib.hid (HbA.out.trans (hbj.mono HbA.out.size))
          have hrow := Hrows.out _ Hbr.out
          have hlaid := Lib.hid (laid17 w xs js k c X _ Hbr.out Hxl.out hrow.1 HRk.out (by omega))
          have hlen := laidR_len xs
          have hmay := Lib.hid (laidR_may xs)
          have hxk : xs.length ≤ 60 := by rw [Hxl.out]; exact hk60
          generalize laidR xs = ys at *
          clear hrow hbj HsA HrA HbA
          go_wp2_with fail
          refine hlaid.out.mono ?_
          rintro e wl ⟨Al, Ll, cl, hs', rfl, hLl, hol, hRl, hbl⟩
          have Hbl := Lib.hid (Hbr.out.trans (hbl.mono Hbr.out.size))
          have hcb := Lib.hid (cbytes_any ys hs' Ll cl Al wl hLl hol.rd (hRl.below Hbl.out) (by omega) hmay.out)
          have hrb := Lib.hid (fun w' (hb : Below wl.heap.size wl w') => rbytes_any ys hs' Ll cl Al w' hLl (hol.rd.below hb) ((hRl.below Hbl.out).below hb) (by omega) hmay.out)
          generalize rowsB ys = T at *
          generalize hTl : T.length = tl at *
          have HTl := Lib.hid hTl
          clear hTl hlaid hol hRl hbl Hbr hLl hlen hxk
          go_wp2_with fail
          refine hcb.out.mono ?_
          rintro e wm ⟨rfl, hbm⟩
          have hrbm := Lib.hid (hrb.out wm hbm)
          have Hbm := Lib.hid (Hbl.out.trans (hbm.mono Hbl.out.size))
          clear hcb hrb hbm
          go_wp2_with fail
          refine hrbm.out.mono ?_
          rintro e wn ⟨An, Ln, cn, rfl, hLn, _, hbn⟩
          obtain rfl : tl = Ln := by first | exact hLn | exact HTl.out.symm.trans hLn
          have Hbn := Lib.hid (Hbm.out.trans (hbn.mono Hbm.out.size))
          clear hrbm hbn hLn
          go_wp2_with fail
          go_ret
          exact ⟨rfl, Hbn.out⟩
  · have htN2 : N ≤ tk := by omega
    have hKN : N ≤ N := by omega
    have hal := alloc_c w1.heap.size bs s0 (N : Nat) w3 Hs3.out (by omega) (by omega) (by omega)
    have Hal := Lib.hid hal
    clear hal hmin hle1
    go_wp2_with fail
    refine Hal.out.mono ?_
    rintro e w4 ⟨A4, c4, rfl, _, hs4, hk4⟩
    have hz4 := hk4.size
    have Hb04 := Lib.hid (Hb03.out.trans ((hk4.below (B := w1.heap.size) (by omega)).mono hz1))
    have hra := Lib.hid (ralloc_c w2.heap.size br s0 (N : Nat) w4 (Hr3.out.keeps hk4 (by decide)) (by omega) (by omega) (by omega))
    have Hs4 := Lib.hid hs4
    have Hx4 := Lib.hid hs4
    clear hs4 hk4 Hal Hs3 Hr3 Hb03 Hx4
    go_wp2_with fail
    refine hra.out.mono ?_
    rintro e w5 ⟨A5, c5, rfl, _, hr5, hk5⟩
    have hz5 := hk5.size
    have Hs5 := Lib.hid (Hs4.out.keeps hk5 (by decide))
    have Hr5 := Lib.hid hr5
    have Hb05 := Lib.hid (Hb04.out.trans ((hk5.below (B := w2.heap.size) (by omega)).mono (by omega)))
    have hl1 : (Pg.allocS s0 (N : Nat)).length = N := by rw [Pg.length_allocS, hl0]
    generalize Pg.allocS s0 (N : Nat) = s1 at *
    clear hr5 hk5 hra Hs4 Hb04
    go_wp2_with fail
    refine (few17 rs hs n c X w5 Hn.out hnc hc (hX.below Hb05.out) (hR.below Hb05.out)).mono ?_
    rintro e w6 ⟨⟨k, hk, hfew, rfl⟩, hb6⟩
    have hz6 := hb6.size
    have Hb06 := Lib.hid (Hb05.out.trans (hb6.mono Hb05.out.size))
    have Hs6 := Lib.hid (Hs5.out.below hb6)
    have Hr6 := Lib.hid (Hr5.out.below hb6)
    have hxl : (rs.take k).length = k := by rw [List.length_take, Hn.out]; omega
    have hXk : Rd w X (hs.take k) := rdTake hX k
    have hRk := hR.take k
    generalize rs.take k = xs at *
    generalize hs.take k = js at *
    have hk60 : k ≤ 60 := by have := hfew.len; omega
    have Hrows : Hid (∀ w', Below w.heap.size w w' → Rd w' X js ∧ Rows w' js xs) := fun w' hb => ⟨hXk.below hb, hRk.below hb⟩
    have HRk := Lib.hid hRk
    have Hxl := Lib.hid hxl
    have hput := Lib.hid (sput_c w1.heap.size bs s1 xs js k c X w6 Hs6.out (by omega) hxl (fun w' hk => Hrows.out w' (Hb06.out.trans ((hk.below (by omega)).mono (by omega)))) (by omega) (by omega) (by omega))
    clear hX hR hXk hRk hfew hb6 Hs5 Hr5 Hb05 hxl Hn
    go_wp2_with fail
    refine hput.out.mono ?_
    rintro e w7 ⟨hp7, hs7, hk7⟩
    have hz7 := hk7.size
    have Hb07 := Lib.hid (Hb06.out.trans ((hk7.below (B := w1.heap.size) (by omega)).mono (by omega)))
    have hrp := Lib.hid (rsput_c w2.heap.size br s1 xs js k c X w7 (Hr6.out.keeps hk7 (by decide)) (by omega) Hxl.out (fun w' hk => Hrows.out w' (Hb07.out.trans ((hk.below (by omega)).mono (by omega)))) (by omega) (by omega) (by omega) (by omega))
    have Hs7 := Lib.hid hs7
    clear hs7 hk7 hput Hs6 Hr6 Hb06
    have hl2 : (Pg.putRS s1 xs).length = N := by rw [Pg.putRS_len, hl1]
    rcases hp7 with ⟨hE, bf, q, ic, I, rfl, hf7⟩ | ⟨hE, rfl⟩
    · rw [hE] at hrp
      have hq := hf7.klen
      have Hf7 := Lib.hid hf7
      have Hq := Lib.hid hq
      have hq9 : q ≤ 4096 := by have := (Pg.putRL_mine s1 xs hE).max; omega
      clear hE hf7 hq
      generalize Pg.putRL s1 xs = l at *
      generalize Pg.putRS s1 xs = s2 at *
      go_wp2_with fail
      refine hrp.out.mono ?_
      rintro e w8 ⟨A8, L8, c8, rfl, hL8, ho8, hr8, hk8⟩
      obtain rfl : L8 = q := hL8.symm.trans Hq.out
      have hz8 := hk8.size
      have Hs8 := Lib.hid (Hs7.out.keeps hk8 (by decide))
      have Hr8 := Lib.hid hr8
      have Hf8 := Lib.hid (Hf7.out.keeps (by decide) hk8)
      have Hb08 := Lib.hid (Hb07.out.trans ((hk8.below (B := w2.heap.size) (by omega)).mono (by omega)))
      have Ho8 := Lib.hid ho8
      have hu := Lib.hid (used_c w1.heap.size bs s2 w8 Hs8.out)
      have hru := Lib.hid (rused_c w2.heap.size br s2 w8 Hr8.out)
      have hpg := Lib.hid (pages_c _ bs bf _ _ _ _ _ w8 Hf8.out (by omega))
      clear hL8 ho8 hr8 hk8 hrp Hs7 Hf7 Hb07
      go_wp2_with fail
      refine hu.out.mono ?_
      rintro e w' ⟨rfl, rfl⟩
      go_wp2_with fail
      refine hru.out.mono ?_
      rintro e w' ⟨rfl, rfl⟩
      go_wp2_with fail
      refine hpg.out.mono ?_
      rintro e w9 ⟨A9, c9, rfl, ho9, hb9⟩
      have hin := ints_any (l.map Int.ofNat) (l.map Int.ofNat) L8 L8 A9 A8 c9 c8 w9 (by rw [List.length_map]; exact Hq.out) (by rw [List.length_map]; exact Hq.out) (by rw [Js_Is]; exact ho9.rd) (by rw [Js_Is]; exact (Own.below Ho8.out hb9).rd) (by omega) (by omega)
      rw [decide_eq_true rfl] at hin
      have Hin := Lib.hid hin
      have Hs9 := Lib.hid (Hs8.out.below hb9)
      have Hr9 := Lib.hid (Hr8.out.below hb9)
      have Hf9 := Lib.hid (Hf8.out.below hb9)
      have Hb09 := Lib.hid (Hb08.out.trans (hb9.mono Hb08.out.size))
      clear hin ho9 hb9 Hs8 Hr8 Hf8 Hb08 Ho8 hu hru hpg
      go_wp2_with fail
      refine Hin.out.mono ?_
      rintro e wx ⟨rfl, d, rfl⟩
      have hmy := Lib.hid (fmany_c _ bs bf _ _ _ _ _ (w9.drewN d) (Hf9.out.below (below_drewN' (Below.refl _ _) d)))
      have HsA := Lib.hid (Hs9.out.drewN d)
      have HrA := Lib.hid (Hr9.out.drewN d)
      have HbA := Lib.hid (below_drewN' Hb09.out d)
      generalize w9.drewN d = wA at *
      clear Hs9 Hr9 Hf9 Hb09 Hin
      go_wp2_with fail
      refine hmy.out.mono ?_
      rintro e w' ⟨rfl, rfl⟩
      clear hmy
      go_wp2_with fail
      go_loopw [105] (fun i wr => ∃ j : Nat, j ≤ N ∧ i = .int .i64 j ∧ Below wA.heap.size wA wr) (fun i _ => N - (intOf i).toNat)
      case atStart => exact ⟨0, by omega, rfl, Below.refl _ _⟩
      case round =>
        obtain ⟨j, hj, rfl, hbj⟩ := hrel
        by_cases hlt : j < N
        · have hraw := Lib.hid (raw_c w1.heap.size bs s2 (j : Int) wr (HsA.out.below hbj) (by omega) (by omega))
          have hrraw := Lib.hid (fun w' (hb : Below wr.heap.size wr w') => rraw_c w2.heap.size br s2 (j : Int) w' ((HrA.out.below hbj).below hb) (by omega) (by omega))
          generalize Pg.rawB s2 (j : Int) = X at *
          generalize Pg.rawE s2 (j : Int) = EX at *
          generalize hXl : X.length = xl at *
          have HXl := Lib.hid hXl
          clear hXl
          go_wp2_with fail
          refine hraw.out.mono ?_
          rintro e wb ⟨Ab, cb, rfl, hob, hbb⟩
          have hrw := Lib.hid (hrraw.out wb hbb)
          have Hbb := Lib.hid (hbj.trans (hbb.mono hbj.size))
          have hcv := run_str wb Ab X xl cb HXl.out hob.rd
          clear hraw hrraw hob hbb
          go_wp2_with fail
          refine hrw.out.mono ?_
          rintro e w' ⟨rfl, rfl⟩
          go_wp2_with fail
          go_roundw
          case rel => exact ⟨j + 1, by omega, by go_num, Hbb.out⟩
          case measure => simp [intOf]; omega
        · obtain rfl : j = N := by omega
          have Hbr := Lib.hid (HbA.out.trans (hbj.mono HbA.out.size))
          have hrow := Hrows.out _ Hbr.out
          have hlaid := Lib.hid (laid17 w xs js k c X _ Hbr.out Hxl.out hrow.1 HRk.out (by omega))
          have hlen := laidR_len xs
          have hmay := Lib.hid (laidR_may xs)
          have hxk : xs.length ≤ 60 := by rw [Hxl.out]; exact hk60
          generalize laidR xs = ys at *
          clear hrow hbj HsA HrA HbA
          go_wp2_with fail
          refine hlaid.out.mono ?_
          rintro e wl ⟨Al, Ll, cl, hs', rfl, hLl, hol, hRl, hbl⟩
          have Hbl := Lib.hid (Hbr.out.trans (hbl.mono Hbr.out.size))
          have hcb := Lib.hid (cbytes_any ys hs' Ll cl Al wl hLl hol.rd (hRl.below Hbl.out) (by omega) hmay.out)
          have hrb := Lib.hid (fun w' (hb : Below wl.heap.size wl w') => rbytes_any ys hs' Ll cl Al w' hLl (hol.rd.below hb) ((hRl.below Hbl.out).below hb) (by omega) hmay.out)
          generalize rowsB ys = T at *
          generalize hTl : T.length = tl at *
          have HTl := Lib.hid hTl
          clear hTl hlaid hol hRl hbl Hbr hLl hlen hxk
          go_wp2_with fail
          refine hcb.out.mono ?_
          rintro e wm ⟨rfl, hbm⟩
          have hrbm := Lib.hid (hrb.out wm hbm)
          have Hbm := Lib.hid (Hbl.out.trans (hbm.mono Hbl.out.size))
          clear hcb hrb hbm
          go_wp2_with fail
          refine hrbm.out.mono ?_
          rintro e wn ⟨An, Ln, cn, rfl, hLn, _, hbn⟩
          obtain rfl : tl = Ln := by first | exact hLn | exact HTl.out.symm.trans hLn
          have Hbn := Lib.hid (Hbm.out.trans (hbn.mono Hbm.out.size))
          clear hrbm hbn hLn
          go_wp2_with fail
          go_ret
          exact ⟨rfl, Hbn.out⟩
    · have hL0 : Pg.putRL s1 xs = [] := by unfold Pg.putRL; rw [if_neg hE]
      rw [hL0] at hrp
      have hE1 : (Pg.putRE s1 xs == 0) = false := beq_eq_false_iff_ne.2 hE
      clear hL0 hE
      generalize Pg.putRE s1 xs = E at *
      generalize Pg.putRS s1 xs = s2 at *
      go_wp2_with fail
      refine hrp.out.mono ?_
      rintro e w8 ⟨A8, L8, c8, rfl, hL8, ho8, hr8, hk8⟩
      obtain rfl : 0 = L8 := hL8
      have hz8 := hk8.size
      have Hs8 := Lib.hid (Hs7.out.keeps hk8 (by decide))
      have Hr8 := Lib.hid hr8
      have Hb08 := Lib.hid (Hb07.out.trans ((hk8.below (B := w2.heap.size) (by omega)).mono (by omega)))
      have hu := Lib.hid (used_c w1.heap.size bs s2 w8 Hs8.out)
      have hru := Lib.hid (rused_c w2.heap.size br s2 w8 Hr8.out)
      clear ho8 hr8 hk8 hrp Hs7 Hb07
      go_wp2_with fail
      refine hu.out.mono ?_
      rintro e w' ⟨rfl, rfl⟩
      go_wp2_with fail
      refine hru.out.mono ?_
      rintro e w' ⟨rfl, rfl⟩
      go_wp2_with fail
      refine (pages_nil w8).mono ?_
      rintro e w' ⟨rfl, rfl⟩
      have hin := ints_any [] [] 0 0 none A8 0 c8 w8 rfl rfl (Rd.nil _ _) (Rd.nil _ _) (by omega) (by omega)
      rw [decide_eq_true rfl] at hin
      have Hin := Lib.hid hin
      clear hin hu hru
      go_wp2_with fail
      refine Hin.out.mono ?_
      rintro e wx ⟨rfl, d, rfl⟩
      have HsA := Lib.hid (Hs8.out.drewN d)
      have HrA := Lib.hid (Hr8.out.drewN d)
      have HbA := Lib.hid (below_drewN' Hb08.out d)
      generalize w8.drewN d = wA at *
      clear Hs8 Hr8 Hb08 Hin
      go_wp2_with fail
      go_loopw [105] (fun i wr => ∃ j : Nat, j ≤ N ∧ i = .int .i64 j ∧ Below wA.heap.size wA wr) (fun i _ => N - (intOf i).toNat)
      case atStart => exact ⟨0, by omega, rfl, Below.refl _ _⟩
      case round =>
        obtain ⟨j, hj, rfl, hbj⟩ := hrel
        by_cases hlt : j < N
        · have hraw := Lib.hid (raw_c w1.heap.size bs s2 (j : Int) wr (HsA.out.below hbj) (by omega) (by omega))
          have hrraw := Lib.hid (fun w' (hb : Below wr.heap.size wr w') => rraw_c w2.heap.size br s2 (j : Int) w' ((HrA.out.below hbj).below hb) (by omega) (by omega))
          generalize Pg.rawB s2 (j : Int) = X at *
          generalize Pg.rawE s2 (j : Int) = EX at *
          generalize hXl : X.length = xl at *
          have HXl := Lib.hid hXl
          clear hXl
          go_wp2_with fail
          refine hraw.out.mono ?_
          rintro e wb ⟨Ab, cb, rfl, hob, hbb⟩
          have hrw := Lib.hid (hrraw.out wb hbb)
          have Hbb := Lib.hid (hbj.trans (hbb.mono hbj.size))
          have hcv := run_str wb Ab X xl cb HXl.out hob.rd
          clear hraw hrraw hob hbb
          go_wp2_with fail
          refine hrw.out.mono ?_
          rintro e w' ⟨rfl, rfl⟩
          go_wp2_with fail
          go_roundw
          case rel => exact ⟨j + 1, by omega, by go_num, Hbb.out⟩
          case measure => simp [intOf]; omega
        · obtain rfl : j = N := by omega
          have Hbr := Lib.hid (HbA.out.trans (hbj.mono HbA.out.size))
          have hrow := Hrows.out _ Hbr.out
          have hlaid := Lib.hid (laid17 w xs js k c X _ Hbr.out Hxl.out hrow.1 HRk.out (by omega))
          have hlen := laidR_len xs
          have hmay := Lib.hid (laidR_may xs)
          have hxk : xs.length ≤ 60 := by rw [Hxl.out]; exact hk60
          generalize laidR xs = ys at *
          clear hrow hbj HsA HrA HbA
          go_wp2_with fail
          refine hlaid.out.mono ?_
          rintro e wl ⟨Al, Ll, cl, hs', rfl, hLl, hol, hRl, hbl⟩
          have Hbl := Lib.hid (Hbr.out.trans (hbl.mono Hbr.out.size))
          have hcb := Lib.hid (cbytes_any ys hs' Ll cl Al wl hLl hol.rd (hRl.below Hbl.out) (by omega) hmay.out)
          have hrb := Lib.hid (fun w' (hb : Below wl.heap.size wl w') => rbytes_any ys hs' Ll cl Al w' hLl (hol.rd.below hb) ((hRl.below Hbl.out).below hb) (by omega) hmay.out)
          generalize rowsB ys = T at *
          generalize hTl : T.length = tl at *
          have HTl := Lib.hid hTl
          clear hTl hlaid hol hRl hbl Hbr hLl hlen hxk
          go_wp2_with fail
          refine hcb.out.mono ?_
          rintro e wm ⟨rfl, hbm⟩
          have hrbm := Lib.hid (hrb.out wm hbm)
          have Hbm := Lib.hid (Hbl.out.trans (hbm.mono Hbl.out.size))
          clear hcb hrb hbm
          go_wp2_with fail
          refine hrbm.out.mono ?_
          rintro e wn ⟨An, Ln, cn, rfl, hLn, _, hbn⟩
          obtain rfl : tl = Ln := by first | exact hLn | exact HTl.out.symm.trans hLn
          have Hbn := Lib.hid (Hbm.out.trans (hbn.mono Hbm.out.size))
          clear hrbm hbn hLn
          go_wp2_with fail
          go_ret
          exact ⟨rfl, Hbn.out⟩
end Go.Proofs.Ytjjmnjgkodiibaa
