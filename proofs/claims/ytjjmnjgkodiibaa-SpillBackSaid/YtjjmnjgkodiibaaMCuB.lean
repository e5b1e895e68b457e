/- The walk of SpillBack. -/
import Derived.Test.YtjjmnjgkodiibaaMCuY
namespace Go.Proofs.Ytjjmnjgkodiibaa
open Go.RowKit

attribute [local go_sem ↓] Go.wp_at_zero Go.wp_at_succ

/-- A row's block that a loop may turn. -/
def Mut (w : World) (B : Nat) (R : Option Addr) (n : Nat) : Prop := n = 0 ∨ ∃ g ys, R = some ⟨g, 0, none⟩ ∧ B ≤ g ∧ Blk w g 37 ys ∧ 3 * n ≤ ys.length
theorem Mut.of_own {w : World} {B : Nat} {R : Option Addr} {n c : Nat} {xs : List Value} (h : Own w B 37 3 R n c xs) : Mut w B R n := by
  rcases h.2 with ⟨hv, h0⟩ | ⟨g, cap, cur, hv, hg, hh, hnc, hcm, hcs, ht⟩
  · exact .inl h0
  · injection hv with h1 h2 h3
    subst h1
    refine .inr ⟨g, cur.toList, rfl, hg, ?_, ?_⟩
    · unfold Blk
      rw [hh]
    · rw [Array.length_toList, hcs]
      omega
theorem Mut.drewN {w : World} {B : Nat} {R : Option Addr} {n : Nat} (h : Mut w B R n) (k : Nat) : Mut (w.drewN k) B R n := h
theorem Cur.cast {w : World} {S : Nat → Prop} {M bs bc : Nat} {s : Pg.St} {rs rs' : List RowM} {j : Nat} {left left' : Int} (h : Cur w S M bs bc s rs j left) (e1 : rs = rs') (e2 : left = left') : Cur w S M bs bc s rs' j left' := by
  subst e1; subst e2
  exact h

set_option maxHeartbeats 16000000 in
set_option maxRecDepth 100000 in
theorem back17_walk (rs : List RowM) (hs : List Value) (n c : Nat) (X : Option Addr) (w : World) (hn : rs.length = n) (hnc : n ≤ c) (hc : c ≤ 9223372036854775807) (hX : Rd w X hs) (hR : Rows w hs rs) :
    Calls Try.prog 7 #[.slice X n c] w fun e w' => e = .returned (.bool true) ∧ Below w.heap.size w w' := by
  have Hn := Lib.hid hn
  clear hn
  go_enter Try.func7, Try.ntmps7
  go_wp2_with fail
  refine (shown17 w).mono ?_
  rintro e w1 ⟨rfl, hb1⟩
  go_wp2_with fail
  refine (new_yes 600 w1 (by omega)).mono ?_
  rintro e w2 ⟨bs, rfl, hs2, hb2⟩
  have hb02 := hb1.trans (hb2.mono hb1.size)
  have hz1 := hb1.size
  have hz2 := hb2.size
  have Hs2 := Lib.hid hs2
  have Hb02 := Lib.hid hb02
  clear hb1 hb2 hs2 hb02
  go_wp2_with fail
  refine (few17 rs hs n c X w2 Hn.out hnc hc (hX.below Hb02.out) (hR.below Hb02.out)).mono ?_
  rintro e w3 ⟨⟨k, hk, hfew, rfl⟩, hb3⟩
  have hz3 := hb3.size
  have hb03 := Hb02.out.trans (hb3.mono Hb02.out.size)
  have hxl : (rs.take k).length = k := by rw [List.length_take, Hn.out]; omega
  have hXk : Rd w (X) (hs.take k) := rdTake hX k
  have hRk := hR.take k
  have hok := hRk.okAll
  generalize rs.take k = xs at *
  generalize hs.take k = js at *
  have hk60 : k ≤ 60 := by have := hfew.len; omega
  have hlaid := Lib.hid (laid17 w xs js k c X w3 hb03 hxl (hXk.below hb03) hRk (by omega))
  have Hs3 := Lib.hid (Hs2.out.below hb3)
  have Hb03 := Lib.hid hb03
  have Hroom := Lib.hid (laid_room hfew hok)
  have hlen := laidR_len xs
  have Hmay := Lib.hid (laidR_may xs)
  have Hok := Lib.hid (fun r (hr : r ∈ laidR xs) => hok r (List.mem_filter.1 hr).1)
  clear hX hR hXk hRk hb3 hb03 hfew hok Hs2 Hb02 Hn
  go_wp2_with fail
  refine hlaid.out.mono ?_
  rintro e w4 ⟨A4, L, c4, hs', rfl, hL, ho4, hR4, hb4⟩
  have hz4 := hb4.size
  have hnc4 := Own.cap ho4
  have hat := Lib.hid (Pg.put_at Hmay.out Hroom.out.1)
  have HN := Lib.hid Hroom.out.2
  generalize laidR xs = x at *
  have hfine : Hid (∀ r ∈ x, Pg.Fine r) := fun r hr => ⟨Hmay.out r hr, Hok.out r hr⟩
  have Hs4 := Lib.hid (Hs3.out.below hb4)
  have Hb04 := Lib.hid (Hb03.out.trans (hb4.mono Hb03.out.size))
  have Hrows : Hid (∀ w', Keeps StT w1.heap.size w4 w' → Rd w' A4 hs' ∧ Rows w' hs' x) := fun w' hk => ⟨(Own.keeps ho4 (by decide) hk).rd, hR4.below (Hb04.out.trans ((hk.below (by omega)).mono (by omega)))⟩
  have hput := sput_c w1.heap.size bs _ x hs' L c4 A4 w4 Hs4.out (by omega) hL Hrows.out (by omega) hnc4.1 (by have := hnc4.2; unfold maxLen at this; omega)
  have Hput := Lib.hid hput
  have HL := Lib.hid hL
  have hL9 : L ≤ 1000 := by omega
  have hcap4 : L ≤ c4 := hnc4.1
  have hs600 : Hid ((List.replicate 600 none : Pg.St).length = 600) := rfl
  generalize (List.replicate 600 none : Pg.St) = s0 at *
  clear hput hL ho4 hR4 hb4 hlaid Hs3 Hb03 Hs4 Hroom hnc4
  go_wp2_with fail
  refine Hput.out.mono ?_
  rintro e w5 ⟨hp5, hs5, hk5⟩
  rcases hp5 with ⟨_, bf, q, ic, I, rfl, hf5⟩ | ⟨h, _⟩
  · have hq := hf5.klen
    have hz5 := hk5.size
    have hb45 := hk5.below (by omega)
    have Hb05 := Lib.hid (Hb04.out.trans (hb45.mono (by omega)))
    have hr5 := Hrows.out _ hk5
    have Hr5 : Hid (∀ w', Below w5.heap.size w5 w' → Rd w' A4 hs' ∧ Rows w' hs' x) := fun w' hb => Hrows.out w' (hk5.then_below hb)
    have Hr50 : Hid (Rows w5 hs' x) := hr5.2
    obtain ⟨jj, hjj, hhon⟩ := hat.out.hon
    have Hhon := Lib.hid hhon
    have h64 := Lib.hid (sto_64 hs5)
    have hlt := Lib.hid hat.out.lt
    have hql := Lib.hid (hhon.len (sto_64 hs5))
    have hq9 : 56 * q ≤ 30000 := by
      have h1 := hql.out
      have h2 := HN.out
      rw [hq] at h1
      simp only [List.length_nil] at h1
      omega
    have hfm := Lib.hid (fmany_c _ bs bf _ _ _ _ _ w5 hf5)
    have Hs5 := Lib.hid hs5
    have Hf5 := Lib.hid hf5
    have Hq := Lib.hid hq
    generalize Pg.putRS s0 x = s1 at *
    generalize Pg.putRL s0 x = l0 at *
    clear hq hs5 hf5 hk5 hb45 hr5 Hput Hb04 hhon hat
    go_wp2_with fail
    refine hfm.out.mono ?_
    rintro e w' ⟨rfl, rfl⟩
    clear hfm
    have hop := Lib.hid (open_c _ bs bf l0 q ic I _ w5 Hf5.out (by omega))
    go_wp2_with fail
    refine hop.out.mono ?_
    rintro e w6 ⟨ba, ica, Ia, rfl, ha6, hb6⟩
    have hz6 := hb6.size
    have hop2 := Lib.hid (open_c _ bs bf l0 q ic I _ w6 (Hf5.out.below hb6) (by omega))
    have hca : Cur w6 (fun j => w5.heap.size ≤ j ∧ j < w6.heap.size) w5.heap.size bs ba s1 (x.drop 0) jj ((L : Int) - ((0 : Nat) : Int)) := ⟨⟨l0, q, ica, Ia, [], 0, 0, none, by rw [show (L : Int) - ((0 : Nat) : Int) = (L : Int) from by omega]; exact ha6, Hhon.out, fun i hi => by have := hlt.out i hi; rw [hs600.out] at this; exact this, by omega⟩, fun b hb => hb⟩
    have Hca := Lib.hid hca
    have Hb56 := Lib.hid hb6
    clear hop hca ha6 hb6
    go_wp2_with fail
    refine hop2.out.mono ?_
    rintro e w7 ⟨bb, icb, Ib, rfl, hb7c, hb7⟩
    have hz7 := hb7.size
    have hcb : Cur w7 (fun j => w6.heap.size ≤ j ∧ j < w7.heap.size) w5.heap.size bs bb s1 (x.drop ((0 + 1) / 2)) jj ((L : Int) - (((0 + 1) / 2 : Nat) : Int)) := ⟨⟨l0, q, icb, Ib, [], 0, 0, none, by rw [show (L : Int) - (((0 + 1) / 2 : Nat) : Int) = (L : Int) from by omega]; exact hb7c, Hhon.out, fun i hi => by have := hlt.out i hi; rw [hs600.out] at this; exact this, by omega⟩, fun b hb => ⟨by omega, hb.2⟩⟩
    have Hca7 := Lib.hid (Hca.out.below hb7)
    have Hcb7 := Lib.hid hcb
    have Hb57 := Lib.hid (Hb56.out.trans (hb7.mono Hb56.out.size))
    have Hs7 := Lib.hid (Hs5.out.below Hb57.out)
    clear hcb hb7c hb7 Hca Hb56 Hs5 Hf5 hop2 hlt hql Hhon
    go_wp2_with fail
    go_loopw [59] (fun vi wr => ∃ (i : Nat) (Sa Sb : Nat → Prop), i ≤ L ∧ vi = .int .i64 i ∧ Hid (Cur wr Sa w5.heap.size bs ba s1 (x.drop i) jj ((L : Int) - (i : Int))) ∧ Hid (Cur wr Sb w5.heap.size bs bb s1 (x.drop ((i + 1) / 2)) jj ((L : Int) - (((i + 1) / 2 : Nat) : Int))) ∧ Hid (Sto wr w1.heap.size bs s1) ∧ Hid (∀ b, Sa b → ¬ Sb b) ∧ Hid (Below w5.heap.size w5 wr)) (fun i _ => L - (intOf i).toNat)
    case atStart => exact ⟨0, _, _, by omega, rfl, Hca7, Hcb7, Hs7, (fun b h1 h2 => by have := h1.2; have := h2.1; omega), Hb57⟩
    case round =>
      obtain ⟨i, Sa, Sb, hi, rfl, Ha, Hb, Hsr, Hdis, Hbr⟩ := hrel
      have hzr := Hbr.out.size
      by_cases hilt : i < L
      · have hil : i < x.length := by rw [HL.out]; exact hilt
        have hXr := Hr5.out wr Hbr.out
        obtain ⟨E, d, h1, h2, h3, h4, h5⟩ := Hr50.out.at_ i x[i] (List.getElem?_eq_getElem hil)
        obtain ⟨gx, ox, rfl, hgx, hrx, hcx⟩ := (Hr5.out w5 (Below.refl _ _)).1.get (k := i) (by rw [hXr.2.len]; exact hil)
        rw [← Hbr.out.cell hgx] at hcx
        have hjx : hs'[i]'(by rw [hXr.2.len]; exact hil) = .slice E x[i].length d := by
          have := List.getElem?_eq_getElem (l := hs') (i := i) (by rw [hXr.2.len]; exact hil)
          rw [this] at h1
          exact Option.some.inj h1
        rw [hjx] at hcx
        have hdrop : x.drop i = x[i] :: x.drop (i + 1) := List.drop_eq_getElem_cons hil
        have hf1 := hfine.out _ (List.getElem_mem hil)
        have hHa := Ha.out
        rw [hdrop] at hHa
        have hnx := Lib.hid (cur_next Sa w5.heap.size w1.heap.size bs ba s1 x[i] (x.drop (i + 1)) jj ((L : Int) - (i : Int)) wr hHa Hsr.out hf1 (by omega) (by omega) hzr)
        have Hrd := Lib.hid h4
        have h32 := may_right hf1.may
        generalize x[i] = r at *
        have hr32 := h32.1
        clear hHa hXr h1 h4 h5 hjx hrx hdrop hf1 h32 hil
        generalize hrl : r.length = rl at *
        have Hrl := Lib.hid hrl
        clear hrl
        go_wp2_with fail
        refine hnx.out.mono ?_
        rintro e w8 ⟨R, rc, S', rfl, ho8, hc8, hs8, ht8, hS'⟩
        have hB8 := ht8.below0 (fun b hb => (Ha.out.2 b hb).1) hzr
        have Hb8 := Lib.hid (Hbr.out.trans hB8)
        have Hcb8 := Lib.hid (Hb.out.turns (fun b h1 h2 => Hdis.out b h2 h1) ht8)
        have Hdis8 : Hid (∀ b, S' b → ¬ Sb b) := fun b h1 h2 => by
          rcases hS' b h1 with h | h
          · exact Hdis.out b h h2
          · have := (Hb.out.2 b h2).2; omega
        have hz8 := ht8.size
        have Hc8 := Lib.hid hc8
        have Hs8 := Lib.hid hs8
        have hsr := samerow_any r r rl rl R E rc d w8 Hrl.out Hrl.out ho8.rd (Hrd.out.below Hb8.out) (by omega) (by omega)
        rw [decide_eq_true rfl] at hsr
        have Hsrw := Lib.hid hsr
        have hmut := Lib.hid (Mut.of_own ho8)
        clear hc8 hs8 ht8 hsr ho8 hB8 hnx Ha Hb Hsr Hdis hS' hcx
        go_wp2_with fail
        refine Hsrw.out.mono ?_
        rintro e w' ⟨rfl, jn, rfl⟩
        clear Hsrw
        go_wp2_with fail
        go_loopw [84] (fun vc w9 => ∃ c : Nat, c ≤ rl ∧ vc = .int .i64 c ∧ Hid (Mut w9 wr.heap.size R rl) ∧ Hid (Keeps [37] wr.heap.size w8 w9)) (fun i _ => rl - (intOf i).toNat)
        case atStart => exact ⟨0, by omega, rfl, hmut.out.drewN jn, (Keeps.refl _ _ _).drewN jn⟩
        case round =>
          obtain ⟨cc, hcc, rfl, hmu, hkk⟩ := hrel
          by_cases hclt : cc < rl
          · have hmu' := hmu.out
            rcases hmu' with h0 | ⟨g, ys, rfl, hg, hbl, hyl⟩
            · omega
            · have hcell := hbl.cell (cc * 3 + 1)
              have hfr := hbl.frozen (cc * 3 + 1)
              rw [List.getElem?_eq_getElem (by omega)] at hcell
              have hbl2 := Lib.hid (hbl.set_ (cc * 3 + 1) (.int .i64 (-77)))
              have hkk2 := Lib.hid (hkk.out.setCell (i := cc * 3 + 1) hbl (by simp) hg (.int .i64 (-77)))
              have hyl2 : Hid (3 * rl ≤ (ys.set (cc * 3 + 1) (.int .i64 (-77))).length) := by show _ ≤ _; rw [List.length_set]; exact hyl
              clear hbl
              go_wp2_with fail
              go_roundw
              case rel => exact ⟨cc + 1, by omega, by go_num, .inr ⟨g, _, rfl, hg, hbl2.out, hyl2.out⟩, hkk2.out⟩
              case measure => simp [intOf]; omega
          · obtain rfl : cc = rl := by omega
            have hz9 := hkk.out.size
            have Hc9 := Lib.hid (Hc8.out.keeps (by decide) hkk.out)
            have Hcb9 := Lib.hid (Hcb8.out.keeps (by decide) hkk.out)
            have Hs9 := Lib.hid (Hs8.out.keeps hkk.out (by decide))
            have Hb9 := Lib.hid (Hb8.out.trans ((hkk.out.below hz8).mono hzr))
            clear hmu hkk Hc8 Hcb8 Hs8 Hb8 hmut
            by_cases hev : i % 2 = 0
            · obtain ⟨h, rfl⟩ : ∃ h, i = 2 * h := ⟨i / 2, by omega⟩
              have e1 : (2 * h + 1) / 2 = h := by omega
              have e2 : (2 * h + 1 + 1) / 2 = h + 1 := by omega
              have m1 : (((2 * h : Nat) : Int)) % 2 = 0 := by omega
              have m2 : (((2 * h : Nat) : Int)) / 2 = (h : Int) := by omega
              rw [e1] at Hcb9
              have hhl : h < x.length := by rw [HL.out]; omega
              have hXr := Hr5.out _ Hb9.out
              obtain ⟨E2, d2, h1, h2, h3, h4, h5⟩ := Hr50.out.at_ h x[h] (List.getElem?_eq_getElem hhl)
              obtain ⟨gy, oy, eg, hgy, hry, hcy5⟩ := (Hr5.out w5 (Below.refl _ _)).1.get (k := h) (by rw [hXr.2.len]; exact hhl)
              injection eg with eg
              injection eg with eg1 eg2
              subst eg1; subst eg2
              have hjy : hs'[h]'(by rw [hXr.2.len]; exact hhl) = .slice E2 x[h].length d2 := by
                have := List.getElem?_eq_getElem (l := hs') (i := h) (by rw [hXr.2.len]; exact hhl)
                rw [this] at h1
                exact Option.some.inj h1
              rw [hjy] at hcy5
              have hdrop2 : x.drop h = x[h] :: x.drop (h + 1) := List.drop_eq_getElem_cons hhl
              have hf2 := hfine.out _ (List.getElem_mem hhl)
              have hHb := Hcb9.out
              rw [hdrop2] at hHb
              have hnx := Lib.hid (cur_next Sb w5.heap.size w1.heap.size bs bb s1 x[h] (x.drop (h + 1)) jj ((L : Int) - (h : Int)) _ hHb Hs9.out hf2 (by omega) (by omega) (by have := Hb9.out.size; omega))
              have Hrd2 := Lib.hid h4
              have h32 := (may_right hf2.may).1
              generalize x[h] = r2 at *
              clear hHb hXr h1 h4 h5 hjy hgy hry hdrop2 hf2 hhl
              have hlh : (h : Int) < (L : Int) := by omega
              have hh0 : (0 : Int) ≤ (h : Int) := by omega
              generalize hrl2 : r2.length = rl2 at *
              have Hrl2 := Lib.hid hrl2
              clear hrl2
              go_wp2_with fail
              refine hnx.out.mono ?_
              rintro e w10 ⟨R2, rc2, S2, rfl, ho10, hc10, hs10, ht10, hS2⟩
              have hz9b := Hb9.out.size
              have hB10 := ht10.below0 (fun b hb => (Hcb9.out.2 b hb).1) hz9b
              have Hb10 := Lib.hid (Hb9.out.trans hB10)
              have Hc10 := Lib.hid (Hc9.out.turns (fun b h1 h2 => Hdis8.out b h1 h2) ht10)
              have Hdis10 : Hid (∀ b, S' b → ¬ S2 b) := fun b h1 h2 => by
                rcases hS2 b h2 with h | h
                · exact Hdis8.out b h1 h
                · have := (Hc9.out.2 b h1).2; omega
              have hcy10 : w10.cell? ⟨gx, ox + h, none⟩ = some (.slice E2 rl2 d2) := by rw [Hb10.out.cell hgx]; exact hcy5
              have hsr := samerow_any r2 r2 rl2 rl2 R2 E2 rc2 d2 w10 Hrl2.out Hrl2.out ho10.rd (Hrd2.out.below Hb10.out) (by omega) (by omega)
              rw [decide_eq_true rfl] at hsr
              have Hsrw := Lib.hid hsr
              have Hcb10 := Lib.hid hc10
              have Hs10 := Lib.hid hs10
              have hz10 := ht10.size
              clear hc10 hs10 ht10 hsr ho10 hB10 hnx Hc9 Hcb9 Hs9 Hdis8 hS2 hcy5 Hb9
              go_wp2_with fail
              refine Hsrw.out.mono ?_
              rintro e w' ⟨rfl, jn2, rfl⟩
              clear Hsrw
              go_wp2_with fail
              go_roundw
              case rel =>
                refine ⟨2 * h + 1, S', S2, by omega, by go_num, ?_, ?_, Hs10.out.drewN jn2, Hdis10, below_drewN' Hb10.out jn2⟩
                · exact (Hc10.out.keeps (T := []) (B := 0) (by simp) ((Keeps.refl _ _ _).drewN jn2)).cast rfl (by omega)
                · exact (Hcb10.out.keeps (T := []) (B := 0) (by simp) ((Keeps.refl _ _ _).drewN jn2)).cast (by rw [e2]) (by omega)
              case measure => simp [intOf]; omega
            · obtain ⟨h, rfl⟩ : ∃ h, i = 2 * h + 1 := ⟨i / 2, by omega⟩
              have m1 : ((((2 * h + 1 : Nat)) : Int)) % 2 = 1 := by omega
              go_wp2_with fail
              go_roundw
              case rel =>
                refine ⟨2 * h + 1 + 1, S', Sb, by omega, by go_num, ?_, ?_, Hs9, Hdis8, Hb9⟩
                · exact Hc9.out.cast rfl (by omega)
                · exact Hcb9.out.cast (by rw [show (2 * h + 1 + 1 + 1) / 2 = (2 * h + 1 + 1) / 2 from by omega]) (by omega)
              case measure => simp [intOf]; omega
      · obtain rfl : i = L := by omega
        obtain ⟨⟨la, ka, ica2, Ia2, pa, na, rca, Ra, q1, q2, _⟩, _⟩ := Ha.out
        have hnil : x.drop i = [] := List.drop_eq_nil_of_le (by rw [HL.out]; exact Nat.le_refl _)
        rw [hnil] at q2
        obtain ⟨rfl, hz0⟩ := q2.end_ h64.out hjj
        have hka : ka = 0 := by rw [← q1.klen]; rfl
        subst hka
        rw [Int.sub_self] at q1
        have hdn := Lib.hid (next_done Sa bs ba ica2 Ia2 pa na rca Ra wr q1 hz0)
        have HbE := Lib.hid (Hb05.out.trans (Hbr.out.mono Hb05.out.size))
        clear q1 q2 hz0 hnil Ha Hb Hsr Hdis Hbr
        go_wp2_with fail
        refine hdn.out.mono ?_
        rintro e w' ⟨rfl, rfl⟩
        go_wp2_with fail
        refine hdn.out.mono ?_
        rintro e w' ⟨rfl, rfl⟩
        go_wp2_with fail
        go_ret
        exact ⟨rfl, HbE.out⟩
  · exact absurd hat.out.ok h
end Go.Proofs.Ytjjmnjgkodiibaa
