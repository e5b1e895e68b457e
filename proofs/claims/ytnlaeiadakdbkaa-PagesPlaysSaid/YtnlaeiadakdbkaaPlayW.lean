/- The walk of PagesPlays. -/
import Derived.Test.YtnlaeiadakdbkaaFew
import Derived.Test.YtnlaeiadakdbkaaBurW
namespace Go.Proofs.Ytnlaeiadakdbkaa
open Go.RowKit

attribute [local go_sem ↓] Go.wp_at_zero Go.wp_at_succ

theorem rsto_base {w : World} {B B' bs : Nat} {s : Pg.St} (h : RSto w B bs s) (hB : B' ≤ B) : RSto w B' bs s := by
  obtain ⟨bp, h⟩ := h
  exact ⟨bp, ⟨by have := h.hs; omega, by have := h.hp; omega, h.st, h.row, h.most, h.lens⟩⟩

theorem length_actS (s : Pg.St) (a : ActM) : (a.does s).length = s.length := by
  unfold ActM.does actS
  split
  · exact Pg.length_allocS _ _
  split
  · exact Pg.length_freeS _ _
  split
  · unfold Pg.writeS; split
    · rfl
    · split <;> simp
  split
  · unfold Pg.flipS; split
    · rfl
    · split <;> simp
  split
  · unfold Pg.putS; rw [Pg.length_lays, Pg.length_allocS]
  split
  · rfl
  · exact Pg.length_dropS _ _

set_option maxRecDepth 100000 in
theorem plays_no (mo : Int) (X : Option Addr) (n c : Nat) (w : World) (h1 : -9223372036854775808 ≤ mo) (h2 : mo ≤ 9223372036854775807) (hno : mo < 0 ∨ 4096 < mo) :
    Calls Try.prog 6 #[.int .i64 mo, .slice X n c] w fun e w' => e = .returned (.bool true) ∧ Below w.heap.size w w' := by
  go_enter Try.func6, Try.ntmps6
  go_wp2_with fail
  refine (shown_any w).mono ?_
  rintro e w1 ⟨rfl, hb1⟩
  go_wp2_with fail
  refine (new_no mo w1 hno h1 h2).mono ?_
  rintro e w2 ⟨rfl, rfl⟩
  go_wp2_with fail
  refine (rnew_no mo w1 hno h1 h2).mono ?_
  rintro e w3 ⟨rfl, rfl⟩
  go_wp2_with fail
  go_ret
  exact ⟨rfl, hb1⟩

set_option maxHeartbeats 4000000 in
set_option maxRecDepth 100000 in
theorem plays_yes (N : Nat) (X : Option Addr) (ys : List ActM) (n c : Nat) (w : World) (hN : N ≤ 4096) (hn : ys.length = n) (hnc : n ≤ c) (hc : c ≤ 9223372036854775807) (hr : Rd w X (acts ys)) (hok : ∀ a ∈ ys, a.ok w) :
    Calls Try.prog 6 #[.int .i64 (N : Int), .slice X n c] w fun e w' => e = .returned (.bool true) ∧ Below w.heap.size w w' := by
  have Hn := Lib.hid hn
  have Hok := Lib.hid hok
  clear hn hok
  obtain ⟨M, hM, hM12⟩ : ∃ M : Nat, (if (12 : Int) < (N : Int) then (12 : Int) else (N : Int)) = (M : Int) ∧ M ≤ 12 := by
    by_cases h : 12 < N
    · exact ⟨12, by rw [if_pos (by omega)]; rfl, by omega⟩
    · exact ⟨N, by rw [if_neg (by omega)], by omega⟩
  have hM' : (if 12 < N then (12 : Int) else (N : Int)) = (M : Int) := by
    rw [← hM]
    by_cases h : 12 < N
    · rw [if_pos h, if_pos (by omega)]
    · rw [if_neg h, if_neg (by omega)]
  go_enter Try.func6, Try.ntmps6
  go_wp2_with fail
  refine (shown_any w).mono ?_
  rintro e w1 ⟨rfl, hb1⟩
  have hz1 := hb1.size
  go_wp2_with fail
  refine (new_yes N w1 hN).mono ?_
  rintro e w2 ⟨bs, rfl, hs2, hb2⟩
  have hz2 := hb2.size
  go_wp2_with fail
  refine (rnew_yes N w2 hN).mono ?_
  rintro e w3 ⟨rs, rfl, hs3, hb3⟩
  have hT3 : Two w w3 bs rs (List.replicate N none) := ⟨sto_base (hs2.below hb3) hz1, rsto_base hs3 (by omega), (hb1.trans (hb2.mono hz1)).trans (hb3.mono (by omega))⟩
  have hlen3 : Hid ((List.replicate N (none : Option (List UInt8))).length = N) := List.length_replicate
  have hr3 := hr.below hT3.below
  clear hs2 hs3 hb1 hb2 hb3 hz1 hz2
  generalize (List.replicate N none : Pg.St) = s0 at *
  go_wp2_with fail
  refine (most_c w.heap.size bs s0 w3 hT3.sto).mono ?_
  rw [hlen3.out]
  rintro e w4 ⟨rfl, rfl⟩
  go_wp2_with fail
  refine (few_c w w3 X ys n c Hn.out hnc hc hr3 Hok.out).mono ?_
  rintro e w4 ⟨⟨k, hkn, hk80, hsm, rfl⟩, rfl⟩
  have Hsm := Lib.hid hsm
  clear hsm
  go_wp2_with fail
  go_loopw [62] (fun i wr => ∃ (j : Nat) (s : Pg.St), j ≤ k ∧ i = .int .i64 j ∧ Two w wr bs rs s ∧ Hid (s.length = N)) (fun i _ => k - (intOf i).toNat)
  case atStart => exact ⟨0, s0, by omega, rfl, hT3, hlen3.out⟩
  case round =>
    obtain ⟨j, s, hj, rfl, hT, hsl⟩ := hrel
    by_cases hlt : j < k
    · have hjl : j < ys.length := by rw [Hn.out]; omega
      have hne : acts ys ≠ [] := by
        intro e
        have := acts_get ys j _ 0 (List.getElem?_eq_getElem hjl) (by omega)
        rw [e] at this
        cases this
      obtain ⟨b0, o0, rfl, hrr⟩ := (hr.below hT.below) hne
      have hq0 := hrr (j * 6 + 0) _ (by rw [acts_get ys j _ 0 (List.getElem?_eq_getElem hjl) (by omega)]; rfl)
      have hq1 := hrr (j * 6 + 1) _ (by rw [acts_get ys j _ 1 (List.getElem?_eq_getElem hjl) (by omega)]; rfl)
      have hq2 := hrr (j * 6 + 2) _ (by rw [acts_get ys j _ 2 (List.getElem?_eq_getElem hjl) (by omega)]; rfl)
      have hq3 := hrr (j * 6 + 3) _ (by rw [acts_get ys j _ 3 (List.getElem?_eq_getElem hjl) (by omega)]; rfl)
      have hq4 := hrr (j * 6 + 4) _ (by rw [acts_get ys j _ 4 (List.getElem?_eq_getElem hjl) (by omega)]; rfl)
      have hq5 := hrr (j * 6 + 5) _ (by rw [acts_get ys j _ 5 (List.getElem?_eq_getElem hjl) (by omega)]; rfl)
      rw [Nat.add_zero] at hq0
      rw [← Nat.add_assoc] at hq1 hq2 hq3 hq4 hq5
      have Ha := Lib.hid (Hok.out _ (List.getElem_mem hjl))
      have Hsa := Lib.hid (Hsm.out (ys[j]) (List.mem_take_iff_getElem.2 ⟨j, by omega, rfl⟩))
      generalize ys[j] = a at *
      clear hrr hne hr3
      go_wp2_with fail
      refine (does_c w _ bs rs s a (hT.young ((Below.refl _ _).alloc (Nat.le_refl _) _)) Ha.out Hsa.out).mono ?_
      rintro e w5 ⟨rfl, hT5, _⟩
      have hsl5 : Hid ((a.does s).length = N) := by show _ = _; rw [length_actS, hsl.out]
      clear hT
      generalize a.does s = s1 at *
      go_wp2_with fail
      refine (used_c w.heap.size bs s1 w5 hT5.sto).mono ?_
      rintro e w6 ⟨rfl, rfl⟩
      go_wp2_with fail
      refine (rused_c w.heap.size rs s1 w5 hT5.ref).mono ?_
      rintro e w6 ⟨rfl, rfl⟩
      clear hq0 hq1 hq2 hq3 hq4 hq5
      go_wp2_with fail
      go_loopw [12] (fun i wr => ∃ q : Int, -1 ≤ q ∧ q ≤ (M : Int) + 1 ∧ i = .int .i64 q ∧ Two w wr bs rs s1) (fun i _ => (14 - intOf i).toNat)
      case atStart => exact ⟨-1, by omega, by omega, rfl, hT5⟩
      case round =>
        obtain ⟨q, hq1, hqM, rfl, hTq⟩ := hrel
        by_cases hle : q ≤ (M : Int)
        · obtain ⟨wq, rfl⟩ : ∃ x : World, x = wr := ⟨_, rfl⟩
          go_wp2_with fail
          refine (read_c w.heap.size bs s1 q wq hTq.sto (by omega) (by omega)).mono ?_
          rintro e w6 ⟨A6, c6, rfl, ho6, hb6⟩
          have hT6 := hTq.young hb6
          have hz6 := hb6.size
          go_wp2_with fail
          refine (rread_c w.heap.size rs s1 q w6 hT6.ref (by omega) (by omega)).mono ?_
          rintro e w7 ⟨rfl, hb7⟩
          have hT7 := hT6.young hb7
          have ho67 := Own.below ho6 hb7
          have hz7 := hb7.size
          have hg6 : ∀ g o, A6 = some ⟨g, o, none⟩ → g < w7.heap.size := by
            rintro g o rfl
            rcases ho67.lies with ⟨hA, _⟩ | ⟨g', cur, hA, _, hlt', _⟩
            · cases hA
            · injection hA with hA; injection hA with h1 _; rw [h1]; exact hlt'
          go_wp2_with fail
          refine (raw_c w.heap.size bs s1 q w7 hT7.sto (by omega) (by omega)).mono ?_
          rintro e w8 ⟨A8, c8, rfl, ho8, hb8⟩
          have hT8 := hT7.young hb8
          have ho68 := Own.below ho67 hb8
          have hz8 := hb8.size
          have hz68 : wq.heap.size ≤ w8.heap.size := by omega
          go_wp2_with fail
          refine (rraw_c w.heap.size rs s1 q w8 hT8.ref (by omega) (by omega)).mono ?_
          rintro e w9 ⟨rfl, rfl⟩
          have hcv6 := run_str w8 A6 (Pg.readB s1 q) _ c6 rfl ho68.rd
          have hcv8 := run_str w8 A8 (Pg.rawB s1 q) _ c8 rfl ho8.rd
          have hcm6 := St8_cmp (Pg.readB s1 q) (Pg.readB s1 q)
          have hcm8 := St8_cmp (Pg.rawB s1 q) (Pg.rawB s1 q)
          rw [decide_eq_true rfl] at hcm6 hcm8
          clear ho6 ho67 hT6
          have ho6 := ho68
          clear ho68
          go_wp2_with fail
          clear hcv6 hcv8 hcm6 hcm8
          have hl56 : (Pg.readB s1 q).length ≤ 64 := by
            unfold Pg.readB
            split
            · simp
            · split
              · rw [List.length_take]; omega
              · simp
          have hl64 : (Pg.rawB s1 q).length ≤ 64 := by
            unfold Pg.rawB
            split
            · simp
            · rename_i l e
              have := sto_64 hTq.sto _ _ (Pg.at_some e).2.2
              omega
          generalize hxb : Pg.readB s1 q = xb at *
          generalize hrb : xb.length = rb at *
          have Hxb := Lib.hid hxb
          have Hrb := Lib.hid hrb
          clear hxb hrb
          go_loopw [130] (fun i wr => ∃ (jj : Nat) (x : List UInt8), jj ≤ rb ∧ i = .int .i64 jj ∧ Hid (x.length = rb) ∧ Own wr wq.heap.size 5 1 A6 rb c6 (Bs x) ∧ Keeps [5] wq.heap.size w8 wr ∧ Own wr w7.heap.size 5 1 A8 (Pg.rawB s1 q).length c8 (Bs (Pg.rawB s1 q))) (fun i _ => rb - (intOf i).toNat)
          case atStart => exact ⟨0, xb, by omega, rfl, Hrb.out, ho6, Keeps.refl _ _ _, ho8⟩
          case round =>
            obtain ⟨jj, x, hjj, rfl, hx, ho, hkx, hoo⟩ := hrel
            by_cases hlt2 : jj < rb
            · rcases ho.lies with ⟨_, h0, _⟩ | ⟨g, cur, hAg, _, _, _, _, _⟩
              · omega
              have hjx : jj < x.length := by rw [hx.out]; exact hlt2
              have hg8 := hg6 g 0 hAg
              subst hAg
              have hcj := ho.cellAt jj (by omega)
              rw [List.getElem?_map, List.getElem?_eq_getElem hjx, Option.map_some] at hcj
              have hfj := ho.frozenAt jj
              have hsj := ho.stored jj (B (x[jj] ^^^ 85))
              have hos := ownsRow_setCell_below hoo (a := ⟨g, jj, none⟩) hg8 (B (x[jj] ^^^ 85))
              rw [← List.map_set] at hsj
              unfold B at hcj hsj
              unfold B at hos
              rw [UInt8.toNat_xor, show (85 : UInt8).toNat = 85 from rfl] at hsj
              rw [UInt8.toNat_xor, show (85 : UInt8).toNat = 85 from rfl] at hos
              have hxo := u8_xor_nat x[jj].toNat 85 x[jj].toNat_lt (by omega)
              rw [show ((85 : Nat) : Int) = 85 from rfl] at hxo
              have Hs := Lib.hid hsj
              have Hos := Lib.hid hos
              have Ho := Lib.hid ho
              have Hlx : Hid ((x.set jj (x[jj] ^^^ 85)).length = rb) := by show _ = _; rw [List.length_set, hx.out]
              generalize x.set jj (x[jj] ^^^ 85) = x' at *
              generalize x[jj] = xj at *
              clear ho hsj hjx hos hoo
              go_wp2_with fail
              go_roundw
              case rel => exact ⟨jj + 1, x', by omega, by go_num, Hlx.out, Hs.out.1, hkx.trans (Own.apd_keeps Ho.out Hs.out.2), Hos.out⟩
              case measure => simp [intOf]; omega
            · obtain rfl : jj = rb := by omega
              have hTu := hT8.keeps hkx (by decide) (by have := hTq.below.size; omega) hz68
              have hz78 : w7.heap.size ≤ wr.heap.size := by have := hkx.size; omega
              clear ho hkx ho6 ho8
              have ho8 := hoo
              clear hoo
              obtain ⟨wu, rfl⟩ : ∃ x : World, x = wr := ⟨_, rfl⟩
              generalize hxd : Pg.rawB s1 q = xd at *
              have Hxd := Lib.hid hxd
              clear hxd
              generalize hrd : xd.length = rd at *
              have Hrd := Lib.hid hrd
              clear hrd
              go_wp2_with fail
              go_loopw [142] (fun i wr => ∃ (jj : Nat) (x : List UInt8), jj ≤ rd ∧ i = .int .i64 jj ∧ Hid (x.length = rd) ∧ Own wr w7.heap.size 5 1 A8 rd c8 (Bs x) ∧ Keeps [5] w7.heap.size wu wr) (fun i _ => rd - (intOf i).toNat)
              case atStart => exact ⟨0, xd, by omega, rfl, Hrd.out, ho8, Keeps.refl _ _ _⟩
              case round =>
                obtain ⟨jj, x, hjj, rfl, hx, ho, hkx⟩ := hrel
                by_cases hlt2 : jj < rd
                · rcases ho.lies with ⟨_, h0, _⟩ | ⟨g, cur, hAg, _, _, _, _, _⟩
                  · omega
                  have hjx : jj < x.length := by rw [hx.out]; exact hlt2
                  skip
                  subst hAg
                  have hcj := ho.cellAt jj (by omega)
                  rw [List.getElem?_map, List.getElem?_eq_getElem hjx, Option.map_some] at hcj
                  have hfj := ho.frozenAt jj
                  have hsj := ho.stored jj (B (x[jj] ^^^ 85))
                  have hos : True := trivial
                  rw [← List.map_set] at hsj
                  unfold B at hcj hsj
                  skip
                  rw [UInt8.toNat_xor, show (85 : UInt8).toNat = 85 from rfl] at hsj
                  skip
                  have hxo := u8_xor_nat x[jj].toNat 85 x[jj].toNat_lt (by omega)
                  rw [show ((85 : Nat) : Int) = 85 from rfl] at hxo
                  have Hs := Lib.hid hsj
                  have Hos := Lib.hid hos
                  have Ho := Lib.hid ho
                  have Hlx : Hid ((x.set jj (x[jj] ^^^ 85)).length = rd) := by show _ = _; rw [List.length_set, hx.out]
                  generalize x.set jj (x[jj] ^^^ 85) = x' at *
                  generalize x[jj] = xj at *
                  clear ho hsj hjx hos
                  go_wp2_with fail
                  go_roundw
                  case rel => exact ⟨jj + 1, x', by omega, by go_num, Hlx.out, Hs.out.1, hkx.trans (Own.apd_keeps Ho.out Hs.out.2)⟩
                  case measure => simp [intOf]; omega
                · obtain rfl : jj = rd := by omega
                  go_wp2_with fail
                  go_roundw
                  case rel => exact ⟨q + 1, by omega, by omega, by go_num, hTu.keeps hkx (by decide) (by have := hT7.below.size; omega) hz78⟩
                  case measure => simp [intOf]; omega
        · obtain rfl : q = (M : Int) + 1 := by omega
          go_wp2_with fail
          go_roundw
          case rel => exact ⟨j + 1, s1, by omega, by go_num, hTq, hsl5.out⟩
          case measure => simp [intOf]; omega
    · go_wp2_with fail
      go_ret
      exact ⟨rfl, hT.below⟩
end Go.Proofs.Ytnlaeiadakdbkaa
