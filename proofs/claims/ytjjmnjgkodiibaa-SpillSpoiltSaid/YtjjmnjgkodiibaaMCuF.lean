/- The walk of SpillSpoilt. -/
import Derived.Test.YtjjmnjgkodiibaaMCuP
import Derived.Test.YtjjmnjgkodiibaaMBurW
import Derived.StillTailTactics
namespace Go.Proofs.Ytjjmnjgkodiibaa
open Go.RowKit

attribute [local go_sem ↓] Go.wp_at_zero Go.wp_at_succ

set_option maxHeartbeats 16000000 in
set_option maxRecDepth 100000 in
theorem spoilt17_walk (rs : List RowM) (hs : List Value) (n c wh av bv : Nat) (X : Option Addr) (w : World) (hn : rs.length = n) (hnc : n ≤ c) (hc : c ≤ 9223372036854775807) (hX : Rd w X hs) (hR : Rows w hs rs) (hwh : wh < 256) (hav : av < 65536) (hbv : bv < 4294967296) :
    Calls Try.prog 6 #[.slice X n c, .int .u8 (wh : Int), .int .u16 (av : Int), .int .u32 (bv : Int)] w fun e w' => e = .returned (.bool true) ∧ Below w.heap.size w w' := by
  have Hn := Lib.hid hn
  clear hn
  go_enter Try.func6, Try.ntmps6
  go_wp2_with fail
  refine (shown17 w).mono ?_
  rintro e w1 ⟨rfl, hb1⟩
  go_wp2_with fail
  refine (new_yes 600 w1 (by omega)).mono ?_
  rintro e w2 ⟨bs, rfl, hs2, hb2⟩
  have hb02 := hb1.trans (hb2.mono hb1.size)
  have hz1 := hb1.size
  have hz2 := hb2.size
  have Hs2 := Lib.hid hs2
  have Hb02 := Lib.hid hb02
  clear hb1 hb2 hs2 hb02
  go_wp2_with fail
  refine (few17 rs hs n c X w2 Hn.out hnc hc (hX.below Hb02.out) (hR.below Hb02.out)).mono ?_
  rintro e w3 ⟨⟨k, hk, hfew, rfl⟩, hb3⟩
  have hz3 := hb3.size
  have hb03 := Hb02.out.trans (hb3.mono Hb02.out.size)
  have hxl : (rs.take k).length = k := by rw [List.length_take, Hn.out]; omega
  have hXk : Rd w (X) (hs.take k) := rdTake hX k
  have hRk := hR.take k
  have hok := hRk.okAll
  generalize rs.take k = xs at *
  generalize hs.take k = js at *
  have hk60 : k ≤ 60 := by have := hfew.len; omega
  have hlaid := Lib.hid (laid17 w xs js k c X w3 hb03 hxl (hXk.below hb03) hRk (by omega))
  have Hs3 := Lib.hid (Hs2.out.below hb3)
  have Hb03 := Lib.hid hb03
  have Hroom := Lib.hid (laid_room hfew hok)
  have hlen := laidR_len xs
  have Hmay := Lib.hid (laidR_may xs)
  have Hok := Lib.hid (fun r (hr : r ∈ laidR xs) => hok r (List.mem_filter.1 hr).1)
  clear hX hR hXk hRk hb3 hb03 hfew hok Hs2 Hb02 Hn
  go_wp2_with fail
  refine hlaid.out.mono ?_
  rintro e w4 ⟨A4, L, c4, hs', rfl, hL, ho4, hR4, hb4⟩
  have hz4 := hb4.size
  have hnc4 := Own.cap ho4
  have hat := Lib.hid (Pg.put_at Hmay.out Hroom.out.1)
  have HN := Lib.hid Hroom.out.2
  generalize laidR xs = x at *
  have hfine : Hid (∀ r ∈ x, Pg.Fine r) := fun r hr => ⟨Hmay.out r hr, Hok.out r hr⟩
  have Hs4 := Lib.hid (Hs3.out.below hb4)
  have Hb04 := Lib.hid (Hb03.out.trans (hb4.mono Hb03.out.size))
  have Hrows : Hid (∀ w', Keeps StT w1.heap.size w4 w' → Rd w' A4 hs' ∧ Rows w' hs' x) := fun w' hk => ⟨(Own.keeps ho4 (by decide) hk).rd, hR4.below (Hb04.out.trans ((hk.below (by omega)).mono (by omega)))⟩
  have hput := sput_c w1.heap.size bs _ x hs' L c4 A4 w4 Hs4.out (by omega) hL Hrows.out (by omega) hnc4.1 (by have := hnc4.2; unfold maxLen at this; omega)
  have Hput := Lib.hid hput
  have HL := Lib.hid hL
  have hL9 : L ≤ 1000 := by omega
  have hcap4 : L ≤ c4 := hnc4.1
  have hs600 : Hid ((List.replicate 600 none : Pg.St).length = 600) := rfl
  generalize (List.replicate 600 none : Pg.St) = s0 at *
  clear hput hL ho4 hR4 hb4 hlaid Hs3 Hb03 Hs4 Hroom hnc4
  go_wp2_with fail
  refine Hput.out.mono ?_
  rintro e w5 ⟨hp5, hs5, hk5⟩
  rcases hp5 with ⟨_, bf, K, ic, I, rfl, hf5⟩ | ⟨h, _⟩
  · have hq := hf5.klen
    have hz5 := hk5.size
    have Hk5 := Lib.hid hk5
    have Hb05 := Lib.hid (Hb04.out.trans ((hk5.below (by omega)).mono (by omega)))
    have Hr50 : Hid (Rows w5 hs' x) := (Hrows.out _ hk5).2
    obtain ⟨jj, hjj, hhon⟩ := hat.out.hon
    have Hhon := Lib.hid hhon
    have h64 := sto_64 hs5
    have hlt := Lib.hid (fun i hi => (show i < 600 from by have := hat.out.lt i hi; rw [hs600.out] at this; exact this))
    have hql := hhon.len h64
    have hq9 : 56 * K ≤ 40000 := by
      have h1 := hql
      have h2 := HN.out
      rw [hq] at h1
      simp only [List.length_nil] at h1
      omega
    have hN4 : (rowsB x).length ≤ 40000 := by
      have h1 := hql
      rw [hq] at h1
      simp only [List.length_nil] at h1
      omega
    have hspo := Lib.hid (fun (q d : Nat) (L : List UInt8) (h1 : (Pg.putRL s0 x)[q]? = some d) (h2 : Pg.okPage (d : Int) L = false) => hat.out.spo h64 h1 h2)
    have hholds := Lib.hid (fun (q d : Nat) (h1 : (Pg.putRL s0 x)[q]? = some d) => hat.out.holds.at_ q d h1)
    have Hs5 := Lib.hid hs5
    have Hf5 := Lib.hid hf5
    have Hq := Lib.hid hq
    have hlen1 : Hid ((Pg.putRS s0 x).length = 600) := by show _ = _; rw [hat.out.len, hs600.out]
    have hpg := Lib.hid (pages_c _ bs bf _ _ _ _ _ w5 hf5 (by omega))
    generalize Pg.putRS s0 x = s1 at *
    generalize Pg.putRL s0 x = l0 at *
    obtain ⟨N, hN⟩ : ∃ N, (rowsB x).length = N := ⟨_, rfl⟩
    rw [hN] at hN4
    have HNN := Lib.hid hN
    clear hN hq hs5 hf5 hk5 Hput hhon hat hql h64 hs600 HN
    go_wp2_with fail
    refine hpg.out.mono ?_
    rintro e w6 ⟨A6, c6, rfl, ho6, hb6⟩
    have hz6 := hb6.size
    have Hb06 := Lib.hid (Hb05.out.trans (hb6.mono (by have := Hb05.out.size; omega)))
    have Hs6 := Lib.hid (Hs5.out.below hb6)
    have Hf6 := Lib.hid (Hf5.out.below hb6)
    have Hk46 : Hid (Keeps StT w1.heap.size w4 w6) := Hk5.out.then_below hb6
    have Ho6 := Lib.hid ho6
    clear hpg Hs5 Hf5 Hk5 hb6 Hb05 ho6
    by_cases hK : K = 0
    · subst hK
      go_wp2_with fail
      go_ret
      exact ⟨rfl, Hb06.out⟩
    · have hM0 : ((K : Int) == 0) = false := by rw [beq_eq_false_iff_ne]; omega
      have hK0 : 0 < K := Nat.pos_of_ne_zero hK
      obtain ⟨q, hq, hqM⟩ : ∃ q : Nat, (wh : Int) % (K : Int) = (q : Int) ∧ q < K := ⟨wh % K, by omega, Nat.mod_lt _ hK0⟩
      obtain ⟨f, hf, hf5⟩ : ∃ f : Nat, (av : Int) % 512 = (f : Int) ∧ f < 512 := ⟨av % 512, by omega, by omega⟩
      have hqI : q < l0.length := by rw [Hq.out]; exact hqM
      have hidI := Lib.hid (List.getElem?_eq_getElem hqI)
      obtain ⟨ga, oa, rfl, hga, _, hca⟩ := Ho6.out.rd.get (k := q) (by rw [List.length_map]; exact hqI)
      rw [List.getElem_map] at hca
      have hid6 := hlt.out _ (List.getElem_mem hqI)
      generalize l0[q] = id at *
      have Hca : Hid (∀ wr, Keeps StT w1.heap.size w6 wr → wr.cell? ⟨ga, oa + q, none⟩ = some (.int .i64 (id : Int))) := fun wr hk => by
        obtain ⟨gb, ob, eb, _, _, hcb⟩ := (Own.keeps Ho6.out (by decide) hk).rd.get (k := q) (by rw [List.length_map]; exact hqI)
        injection eb with eb
        injection eb with e1 e2
        subst e1; subst e2
        rw [List.getElem_map] at hcb
        have := hidI.out
        rw [List.getElem?_eq_getElem hqI] at this
        rw [Option.some.inj this] at hcb
        exact hcb
      obtain ⟨P0, hP0⟩ : ∃ P0, P0 = Pg.page id (((rowsB x).drop (56 * q)).take 56) := ⟨_, rfl⟩
      have hat0 := hholds.out q id hidI.out
      rw [← hP0, Pg.at_nat] at hat0
      have hs1id : Hid (s1[id]? = some (some P0)) := by
        show _ = _
        cases e : s1[id]? with
        | none => rw [e] at hat0; cases hat0
        | some o => rw [e] at hat0; exact congrArg some hat0
      have hB0 : Hid (Burst P0 P0 f 0 0 false) := ⟨Crc.Win.zero 0, by rw [hP0, Crc.turnN_of_zero]; exact Crc.more_seal _, by rw [hP0]; exact Pg.length_page _ (by rw [List.length_take]; omega), fun h => (by cases h), fun _ => rfl⟩
      have hss : Hid (s1.set id (some P0) = s1) := by
        show _ = _
        apply List.ext_getElem?
        intro j
        rw [List.getElem?_set]
        split
        · rename_i e; subst e
          rw [hs1id.out, if_pos (List.getElem?_eq_some_iff.1 hs1id.out).1]
        · rfl
      have HP0 := Lib.hid hP0
      clear hP0 hat0 hca hholds hK
      go_wp2_with fail
      try rw [hq]
      clear hq
      go_loopw [17, 61] (fun t i wr => ∃ (k V : Nat) (L' : List UInt8) (tb : Bool), k ≤ 32 ∧ i = .int .i64 k ∧ t = .bool tb ∧ Hid (Burst P0 L' f k V tb) ∧ Hid (Sto wr w1.heap.size bs (s1.set id (some L'))) ∧ Hid (Keeps StT w1.heap.size w6 wr)) (fun _ i _ => 32 - (intOf i).toNat)
      case atStart => exact ⟨0, 0, P0, false, by omega, rfl, rfl, hB0.out, by rw [hss.out]; exact Hs6.out, Keeps.refl _ _ _⟩
      case round =>
        obtain ⟨k, V, L', tb, hk, rfl, rfl, hBu, hst, hkp⟩ := hrel
        by_cases hlt2 : k < 32
        · have hcq := Hca.out wr hkp.out
          have hr8 : (f + k) % 8 < 8 := Nat.mod_lt _ (by omega)
          obtain ⟨m, hm, hm'⟩ : ∃ m : UInt8, (128 / 2 ^ ((f + k) % 8) : Int) = (m.toNat : Int) ∧ Hid (m.toNat = 2 ^ (7 - (f + k) % 8)) := by
            generalize (f + k) % 8 = r at *
            match r, hr8 with
            | 0, _ => exact ⟨128, rfl, rfl⟩
            | 1, _ => exact ⟨64, rfl, rfl⟩
            | 2, _ => exact ⟨32, rfl, rfl⟩
            | 3, _ => exact ⟨16, rfl, rfl⟩
            | 4, _ => exact ⟨8, rfl, rfl⟩
            | 5, _ => exact ⟨4, rfl, rfl⟩
            | 6, _ => exact ⟨2, rfl, rfl⟩
            | 7, _ => exact ⟨1, rfl, rfl⟩
          have Hm := Lib.hid hm
          clear hm hr8
          go_wp2_with fail
          · have hd1 : IntKind.i64.wrap (((f : Int) + (k : Int)).tdiv 8) = ((f : Int) + (k : Int)) / 8 := by rw [IntKind.wrap_i64, Int.tdiv_eq_ediv_of_nonneg (by omega)]; omega
            have hd2 : ((f : Int) + (k : Int)).tmod 8 = (((f + k) % 8 : Nat) : Int) := by rw [Int.tmod_eq_emod_of_nonneg (by omega)]; omega
            go_still_tail 10, (by kernel_rfl)
            clear hd1 hd2
            change wpList _ _ _ _ _ wr.drew
            go_wp2_with fail
            try rw [Hm.out]
            refine (flip_c w1.heap.size bs _ (id : Int) _ m wr.drew (hst.out.below (Below.refl _ _).drew) (by omega) (by omega)).mono ?_
            rintro e w7 ⟨rfl, hs7, hk7⟩
            have hfl : Hid (Pg.flipS (s1.set id (some L')) (id : Int) (((f : Int) + k) / 8) m = s1.set id (some (Pg.flip L' ((f + k) / 8) m))) := by
              show _ = _
              unfold Pg.flipS
              rw [Pg.at_nat, List.getElem?_set_self (List.getElem?_eq_some_iff.1 hs1id.out).1]
              show (if 0 ≤ ((f : Int) + k) / 8 ∧ ((f : Int) + k) / 8 < 64 then _ else _) = _
              rw [if_pos (by omega), Int.toNat_natCast, List.set_set, show (((f : Int) + k) / 8).toNat = (f + k) / 8 from by omega]
            have hBu' : Hid (Burst P0 (Pg.flip L' ((f + k) / 8) m) f (k + 1) (V ^^^ 2 ^ (31 - k)) true) := by
              have ht := Crc.Win.take hBu.out.win hlt2
              refine ⟨ht.1, ?_, by unfold Pg.flip; rw [List.length_set]; exact hBu.out.len, fun _ => ht.2, fun h => by cases h⟩
              unfold Pg.flip
              rw [Crc.more_bit L' hBu.out.len m ((f + k) / 8) ((f + k) % 8) f k hlt2 (by omega) (by omega) (by omega) hm'.out, hBu.out.more, ← Crc.turnN_xor _ hBu.out.win.lt]
              exact Nat.lt_of_le_of_lt (Nat.pow_le_pow_right (by omega) (show 31 - k ≤ 31 by omega)) (by omega)
            rw [hfl.out] at hs7
            go_wp2_with fail
            go_roundw
            case rel => exact ⟨k + 1, _, _, true, by omega, by go_num, rfl, hBu'.out, hs7, (hkp.out.drewN 1).trans hk7⟩
            case measure => simp [intOf]; omega
          all_goals
            go_roundw
            case rel => exact ⟨k + 1, V, L', tb, by omega, by go_num, rfl, ⟨hBu.out.win.skip, hBu.out.more, hBu.out.len, hBu.out.on, hBu.out.off⟩, hst, hkp⟩
            case measure => simp [intOf]; omega
        · obtain rfl : k = 32 := by omega
          have hlook : Hid ((tb = true → Pg.Spo (s1.set id (some L')) l0 [] x (56 * (q : Int))) ∧ (tb = false → Pg.Hon (s1.set id (some L')) l0 [] x jj)) := by
            refine ⟨fun ht => hspo.out q id L' hidI.out (Pg.burst_told (hBu.out.on ht) hBu.out.win hBu.out.more), fun ht => ?_⟩
            rw [hBu.out.off ht, hss.out]
            exact Hhon.out
          generalize s1.set id (some L') = s2 at *
          have hzr := hkp.out.size
          have Hb0r := Lib.hid (Hb06.out.trans ((hkp.out.below (by omega)).mono (by have := Hb06.out.size; omega)))
          have Hk4r : Hid (Keeps StT w1.heap.size w4 wr) := Hk46.out.trans hkp.out
          have Hr5 : Hid (∀ w', Below wr.heap.size wr w' → Rd w' A4 hs' ∧ Rows w' hs' x) := fun w' hb => Hrows.out w' (Hk4r.out.then_below hb)
          have Hrr : Hid (Rows wr hs' x) := (Hrows.out wr Hk4r.out).2
          have Hfr := Lib.hid (Hf6.out.keeps (by decide) hkp.out)
          have hop := Lib.hid (open_c _ bs bf l0 K ic I _ wr Hfr.out (by omega))
          clear hBu hidI hB0 hss hs1id HP0 Ho6 Hca Hs6 Hf6 hkp Hhon hspo Hb06 Hk46 Hk4r Hr50
          generalize wr = wf at *
          go_wp2_with fail
          refine hop.out.mono ?_
          rintro e w7 ⟨ba, ica, Ia, rfl, ha7, hb7⟩
          have hz7 := hb7.size
          have hca : Cur2 w7 (fun j => wf.heap.size ≤ j ∧ j < w7.heap.size) wf.heap.size bs ba s2 tb (x.drop 0) jj (56 * (q : Int) - ((0 : Nat) : Int)) ((L : Int) - ((0 : Nat) : Int)) := by
            refine ⟨⟨l0, K, ica, Ia, [], 0, 0, none, by rw [show (L : Int) - ((0 : Nat) : Int) = (L : Int) from by omega]; exact ha7, fun ht => ?_, fun ht => ?_, hlt.out, by omega⟩, fun b hb => hb⟩
            · rw [show 56 * (q : Int) - ((0 : Nat) : Int) = 56 * (q : Int) from by omega]
              exact hlook.out.1 ht
            · exact hlook.out.2 ht
          have Hca7 := Lib.hid hca
          have Hb7 := Lib.hid hb7
          have Hs7 := Lib.hid (hst.out.below hb7)
          have HN7 : Hid (0 + (rowsB (x.drop 0)).length = N) := by show _ = _; rw [List.drop_zero, Nat.zero_add]; exact HNN.out
          clear hca ha7 hb7 hop hst hlook
          go_wp2_with fail
          go_loopw [21, 94] (fun ve vi w8 => ∃ (i E : Nat) (Sa : Nat → Prop), i ≤ L ∧ vi = .int .i64 i ∧ ve = .int .i64 E ∧ Hid (E + (rowsB (x.drop i)).length = N) ∧ Hid (Cur2 w8 Sa wf.heap.size bs ba s2 tb (x.drop i) jj (56 * (q : Int) - (E : Int)) ((L : Int) - (i : Int))) ∧ Hid (Sto w8 w1.heap.size bs s2) ∧ Hid (Below wf.heap.size wf w8)) (fun _ i _ => L - (intOf i).toNat)
          case atStart => exact ⟨0, 0, _, by omega, rfl, rfl, HN7, Hca7, Hs7, Hb7⟩
          case round =>
            obtain ⟨i, E, Sa, hi, rfl, rfl, hE, Ha, Hsr, Hbr⟩ := hrel
            have hz8 := Hbr.out.size
            by_cases hilt : i < L
            · have hil : i < x.length := by rw [HL.out]; exact hilt
              have hXr := Hr5.out _ Hbr.out
              obtain ⟨e0, d, h1, h2, h3, h4, h5⟩ := Hrr.out.at_ i x[i] (List.getElem?_eq_getElem hil)
              obtain ⟨gx, ox, rfl, hgx, hrx, hcx⟩ := (Hr5.out wf (Below.refl _ _)).1.get (k := i) (by rw [hXr.2.len]; exact hil)
              have hjx : hs'[i]'(by rw [hXr.2.len]; exact hil) = .slice e0 x[i].length d := by
                have := List.getElem?_eq_getElem (l := hs') (i := i) (by rw [hXr.2.len]; exact hil)
                rw [this] at h1
                exact Option.some.inj h1
              rw [hjx] at hcx
              have Hcx := Lib.hid hcx
              have hcx8 := hcx
              rw [← Hbr.out.cell hgx] at hcx8
              have hdrop : x.drop i = x[i] :: x.drop (i + 1) := List.drop_eq_getElem_cons hil
              have hf1 := hfine.out _ (List.getElem_mem hil)
              have hHa := Ha.out
              have hE' := hE.out
              rw [hdrop] at hHa hE'
              rw [Pg.rowsB_cons, List.length_append] at hE'
              have hnx := Lib.hid (cur2_next Sa wf.heap.size w1.heap.size bs ba s2 tb x[i] (x.drop (i + 1)) jj _ ((L : Int) - (i : Int)) _ hHa Hsr.out hf1 (by omega) (by omega) hz8)
              have Hrd := Lib.hid h4
              have h32 := may_right hf1.may
              have hrr := Lib.hid (fun (w' : World) (rl : Nat) (hl : x[i].length = rl) (hb : Below wf.heap.size wf w') => rrow_any x[i] rl d e0 w' hl (h4.below hb) (by have := h32.1; omega) h32.2 hf1.ok)
              generalize x[i] = r at *
              have hr32 := h32.1
              generalize hBL : (rowB r).length = BL at *
              have hE2 : E + BL ≤ N := by omega
              have HE' := Lib.hid hE'
              clear hE' hHa hXr h1 h2 h3 h4 h5 hjx hrx hdrop hf1 h32 hil hcx hE Ha
              generalize hrl : r.length = rl at *
              have Hrl := Lib.hid hrl
              have Hrr2 := Lib.hid (hrr.out · rl rfl)
              clear hrl hrr
              go_wp2_with fail
              refine hnx.out.mono ?_
              rintro e w9 ⟨hor, hs9, hb9⟩
              have Hb9 := Lib.hid (Hbr.out.trans hb9)
              have hz9 := Hb9.out.size
              have hcx9 := Hcx.out
              rw [← Hb9.out.cell hgx] at hcx9
              have Hs9 := Lib.hid hs9
              clear hnx Hsr Hbr hs9 hb9 hcx8
              rcases hor with ⟨rfl, hg, rfl, S', l', k', ic', I', p', n', rc', R', hc9⟩ | ⟨R, rc, S', rfl, ho9, hc9⟩
              · have hne := Lib.hid (next_err S' bs ba l' k' ic' I' p' n' rc' R' _ 6 w9 hc9 (by decide))
                clear hc9
                go_wp2_with fail
                refine hne.out.mono ?_
                rintro e w10 ⟨rfl, hb10⟩
                have Hb10 := Lib.hid (Hb9.out.trans (hb10.mono hz9))
                have hrow := Hrr2.out w10 Hb10.out
                have hgt : (q : Int) * 56 < (E : Int) + (BL : Int) := by omega
                have hq56 : (q : Int) * 56 ≤ 40000 := by omega
                clear hne hb10 hg
                go_wp2_with fail
                refine hrow.mono ?_
                rintro e w11 ⟨A', L2, c', rfl, hL2, _, hb11⟩
                have hL2' : L2 = BL := by omega
                subst hL2'
                have Hb11 := Lib.hid (Hb0r.out.trans ((Hb10.out.trans (hb11.mono Hb10.out.size)).mono (by have := Hb0r.out.size; omega)))
                clear hb11 hrow
                go_wp2_with fail
                go_ret
                exact ⟨rfl, Hb11.out⟩
              · have hsr := samerow_any r r rl rl R e0 rc d w9 Hrl.out Hrl.out ho9.rd (Hrd.out.below Hb9.out) (by omega) (by omega)
                rw [decide_eq_true rfl] at hsr
                have Hsrw := Lib.hid hsr
                have Hc9 := Lib.hid hc9
                clear hsr ho9 hc9
                go_wp2_with fail
                refine Hsrw.out.mono ?_
                rintro e w' ⟨rfl, jn, rfl⟩
                have Hb10 := Lib.hid (below_drewN' Hb9.out jn)
                have hrow := Hrr2.out _ Hb10.out
                clear Hsrw
                go_wp2_with fail
                refine hrow.mono ?_
                rintro e w11 ⟨A', L2, c', rfl, hL2, _, hb11⟩
                have hL2' : L2 = BL := by omega
                subst hL2'
                have Hb11 := Lib.hid (Hb10.out.trans (hb11.mono hz9))
                have Hc11 := Lib.hid ((Hc9.out.drewN jn).below hb11)
                have Hs11 := Lib.hid ((Hs9.out.below (below_drewN' (Below.refl _ _) jn)).below hb11)
                clear hb11 hrow Hb10
                go_wp2_with fail
                go_roundw
                case rel =>
                  refine ⟨i + 1, E + L2, S', by omega, by go_num, by go_num, ?_, ?_, Hs11.out, Hb11.out⟩
                  · show _ = _
                    have := HE'.out
                    omega
                  · exact Hc11.out.cast rfl (by omega) (by omega)
                case measure => simp [intOf]; omega
            · obtain rfl : i = L := by omega
              have hnil : x.drop i = [] := List.drop_eq_nil_of_le (by rw [HL.out]; exact Nat.le_refl _)
              have HbE := Lib.hid (Hb0r.out.trans (Hbr.out.mono Hb0r.out.size))
              have htb : tb = false := by
                obtain ⟨⟨la, ka, ica2, Ia2, pa, na, rca, Ra, q1, q2, _⟩, _⟩ := Ha.out
                cases tb with
                | false => rfl
                | true =>
                  have := q2 rfl
                  rw [hnil] at this
                  exact this.none.elim
              subst htb
              go_wp2_with fail
              go_ret
              exact ⟨rfl, HbE.out⟩
  · exact absurd hat.out.ok h
end Go.Proofs.Ytjjmnjgkodiibaa
