/- The walk of PagesLeast: it returns true, whatever the two lists of bytes are, and turns nothing that was there. -/
import Derived.Test.YtnlaeiadakdbkaaLw5a
import Derived.Test.YtnlaeiadakdbkaaLeastM
namespace Go.Proofs.Ytnlaeiadakdbkaa
open Go.RowKit

attribute [local go_sem ↓] Go.wp_at_zero Go.wp_at_succ

/-- What the rounds hand on: the store, the row of truths, how many are left. -/
structure Least (w0 w : World) (bs go : Nat) (s : Pg.St) (left : Int) : Prop where
  sto : Sto w w0.heap.size bs s
  on : Blk w go 28 (Pg.onV s)
  len : s.length = 50
  left : left = 50 - Pg.used s
  young : w0.heap.size ≤ go
  below : Below w0.heap.size w0 w

theorem zero_bools (w : World) : (zeroValue 28).run Try.prog w = .ok (.agg (Crc.zrow 50 (.bool false))) w := by kernel_rfl

set_option maxRecDepth 100000 in
set_option maxHeartbeats 4000000 in
theorem least_walk (A A' : Option Addr) (l m : List UInt8) (n k c c' : Nat) (w : World) (hl : l.length = n) (hm : m.length = k) (hn : n ≤ 9223372036854775807) (hk : k ≤ 9223372036854775807) (hA : Rd w A (Bs l)) (hA' : Rd w A' (Bs m)) :
    Calls Try.prog 3 #[.slice A n c, .slice A' k c'] w fun e w' => e = .returned (.bool true) ∧ Below w.heap.size w w' := by
  have Hl := Lib.hid hl
  have Hm := Lib.hid hm
  clear hl hm
  have hz := fun w => zero_bools w
  go_enter Try.func3, Try.ntmps3
  go_wp2_with fail
  refine (shown_any w).mono ?_
  rintro e w1 ⟨rfl, hb1⟩
  have hz1 := hb1.size
  go_wp2_with fail
  refine (new_yes 50 w1 (by omega)).mono ?_
  rintro e w2 ⟨bs, rfl, hs2, hb2⟩
  have hz2 := hb2.size
  have hs2 : Sto w2 w.heap.size bs (List.replicate 50 none) := by
    obtain ⟨bp, qs, h⟩ := hs2
    exact ⟨bp, qs, ⟨by have := h.hs; omega, by have := h.hp; omega, h.st, h.row, h.len, h.most, fun i l hi => by
      obtain ⟨g, h1, h2, h3, h4⟩ := h.some_ i l hi
      exact ⟨g, h1, by omega, h3, h4⟩, h.none_, h.inj⟩⟩
  have hb02 := hb1.trans (hb2.mono hz1)
  have hI : Least w (w2.alloc (.cells (Crc.zrow 50 (.bool false)) 28)) bs w2.heap.size (List.replicate 50 none) 50 := by
    refine ⟨hs2.below ((Below.refl _ _).alloc (Nat.le_refl _) _), ?_, rfl, rfl, hb02.size, hb02.alloc hb02.size _⟩
    have := Blk.new w2 28 (Crc.zrow 50 (.bool false))
    exact this
  go_wp2_with fail
  clear hz
  go_loopw [9, 31] (fun v i wr => ∃ (j : Nat) (s : Pg.St) (left : Int), j ≤ n ∧ i = .int .i64 j ∧ v = .int .i64 left ∧ Least w wr bs w2.heap.size s left) (fun _ i _ => n - (intOf i).toNat)
  case atStart => exact ⟨0, _, 50, by omega, rfl, rfl, hI⟩
  case round =>
    obtain ⟨j, s, left, hj, rfl, rfl, hL⟩ := hrel
    by_cases hlt : j < n
    · obtain ⟨ba, oa, rfl, hba, _, hca⟩ := (hA.below hL.below).get (k := j) (by rw [List.length_map, Hl.out]; exact hlt)
      rw [List.getElem_map] at hca
      unfold B at hca
      generalize l[j]'(by rw [Hl.out]; exact hlt) = x at *
      by_cases h40 : 40 ≤ j
      · clear hA hA'
        go_wp2_with fail
        go_ret
        exact ⟨rfl, hL.below⟩
      · have hzr := hL.below.size
        have hu := Pg.used_le s
        rw [hL.len] at hu
        have hleft := hL.left
        obtain ⟨N, hN⟩ : ∃ N : Nat, (x.toNat : Int) % 10 = (N : Int) := ⟨x.toNat % 10, by omega⟩
        have hN10 : N < 10 := by have := x.toNat_lt; omega
        by_cases hfull : left < N
        · have hE : Pg.allocE s (N : Int) = 4 := by unfold Pg.allocE; rw [if_neg (by omega), if_pos (by rw [hL.len]; omega)]
          have hLl : Pg.allocL s (N : Int) = [] := by unfold Pg.allocL; rw [hE, if_neg (by omega)]
          have hS : Pg.allocS s (N : Int) = s := by unfold Pg.allocS; rw [hE, if_neg (by omega)]
          clear hleft
          go_wp2_with fail
          refine (alloc_c w.heap.size bs s N wr hL.sto (by omega) (by omega) (by omega)).mono ?_
          rw [hE, hLl, hS]
          rintro e w3 ⟨A3, c3, rfl, ho3, hs3, hk3⟩
          have hz3 := hk3.size
          have hL3 : Least w w3 bs w2.heap.size s left := ⟨hs3, hL.on.keeps (by decide) hk3, hL.len, hL.left, hL.young, hL.below.trans (hk3.below (by omega))⟩
          clear hE hLl hS ho3 hs3 hk3 hL hz3
          clear hA
          generalize s = S at *
          generalize left = lf at *
          have hz3 := hL3.below.size
          have hSl := hL3.len
          have hlf := Lib.hid hL3.left
          have hSu := Pg.used_le S
          rw [hSl] at hSu
          have hlf0 : 0 ≤ lf := by have := hlf.out; omega
          have hlf1 : lf ≤ 50 := by have := hlf.out; omega
          by_cases hjk : j < k
          · obtain ⟨bg, og, rfl, hbg, _, hcg⟩ := (hA'.below hL3.below).get (k := j) (by rw [List.length_map, Hm.out]; exact hjk)
            rw [List.getElem_map] at hcg
            unfold B at hcg
            generalize m[j]'(by rw [Hm.out]; exact hjk) = y at *
            obtain ⟨G, hG⟩ : ∃ G : Nat, (y.toNat : Int) % 50 = (G : Int) := ⟨y.toNat % 50, by omega⟩
            have hG50 : G < 50 := by have := y.toNat_lt; omega
            have hGI : (0 : Int) ≤ (G : Int) := by omega
            have hGI' : (G : Int) < 50 := by omega
            have hon := hL3.on.cell G
            rw [Pg.onV_get (by omega)] at hon
            have hon' := hL3.on.frozen G
            have hat := Pg.at_nat S G
            rw [List.getElem?_eq_getElem (show G < List.length S by omega)] at hat
            cases hq : S[G]'(by omega) with
            | none =>
              rw [hq] at hon hat
              have hE : Pg.freeE S (G : Int) = 2 := by unfold Pg.freeE; rw [hat]; rfl
              have hS' : Pg.freeS S (G : Int) = S := by unfold Pg.freeS; rw [hat]; rfl
              simp only [Option.isSome_none] at hon
              have HL3 := Lib.hid hL3
              have hb2 : (2 == (0 : Int)) = false := rfl
              clear hL3 hat hlf hSl hq hA'
              go_wp2_with fail
              go_region_held3 (fun w' => w'.cell? ⟨w2.heap.size, G, none⟩ = some (.bool false))
                (first | assumption | exact ((HL3.out.on.keeps (by decide) hk4).cell G).trans (((HL3.out.on).cell G).symm.trans hon))
                ((go_at_call 11; refine (free_c w.heap.size bs S G _ (by exact HL3.out.sto.drewN 1) (by omega) (by omega)).mono ?_; rw [hE, hS']; rintro e w4 ⟨rfl, hs4, hk4'⟩; have hk4 : Keeps StT w.heap.size w3 w4 := ⟨hk4'.os, hk4'.tape, hk4'.output, hk4'.size, hk4'.block⟩))
              have hL4 : Least w w4 bs w2.heap.size S lf := ⟨hs4, HL3.out.on.keeps (by decide) hk4, HL3.out.len, HL3.out.left, HL3.out.young, HL3.out.below.trans (hk4.below hz3)⟩
              have hc4 := (hL4.on).cell G
              rw [← (HL3.out.on).cell G, hon] at hc4
              have hlf := Lib.hid hL4.left
              clear hon hon'
              go_wp2_with fail
              refine (used_c w.heap.size bs S w4 hL4.sto).mono ?_
              rintro e w5 ⟨rfl, rfl⟩
              have hne : ((Pg.used S : Int) != 50 - lf) = false := by rw [bne_eq_false_iff_eq]; have := hlf.out; omega
              clear hlf
              go_wp2_with fail
              go_roundw
              case rel => exact ⟨j + 1, S, lf, by omega, by go_num, rfl, hL4⟩
              case measure => simp [intOf]; omega
            | some pg =>
              rw [hq] at hon hat
              have hE : Pg.freeE S (G : Int) = 0 := by unfold Pg.freeE; rw [hat]; rfl
              have hS' : Pg.freeS S (G : Int) = S.set G none := by unfold Pg.freeS; rw [hat]; rfl
              have hud := Pg.used_drop (s := S) (i := G) (m := pg) (by rw [List.getElem?_eq_getElem (by omega), hq])
              simp only [Option.isSome_some] at hon
              have HL3 := Lib.hid hL3
              have hb2 : (0 == (0 : Int)) = true := rfl
              clear hL3 hat hlf hSl hq hA'
              go_wp2_with fail
              go_region_held3 (fun w' => w'.cell? ⟨w2.heap.size, G, none⟩ = some (.bool true))
                (first | assumption | exact ((HL3.out.on.keeps (by decide) hk4).cell G).trans (((HL3.out.on).cell G).symm.trans hon))
                ((go_at_call 11; refine (free_c w.heap.size bs S G _ (by exact HL3.out.sto.drewN 1) (by omega) (by omega)).mono ?_; rw [hE, hS']; rintro e w4 ⟨rfl, hs4, hk4'⟩; have hk4 : Keeps StT w.heap.size w3 w4 := ⟨hk4'.os, hk4'.tape, hk4'.output, hk4'.size, hk4'.block⟩))
              have hon4 := HL3.out.on.keeps (by decide) hk4
              have hc4 := hon4.cell G
              rw [← (HL3.out.on).cell G, hon] at hc4
              have hf4 := hon4.frozen G
              have hb4 := HL3.out.below.trans (hk4.below hz3)
              have hk5 := (Keeps.refl [28] w.heap.size w4).setCell hon4 (i := G) (by simp) HL3.out.young (.bool false)
              have hset := hon4.set_ G (.bool (none : Option (List UInt8)).isSome)
              rw [Pg.onV_set] at hset
              have hL5 : Least w (w4.setCell ⟨w2.heap.size, G, none⟩ (.bool false)) bs w2.heap.size (S.set G none) (lf + 1) :=
                ⟨hs4.keeps hk5 (by decide), hset, by rw [List.length_set]; exact HL3.out.len, by have := HL3.out.left; omega, HL3.out.young, hb4.trans (hk5.below hb4.size)⟩
              have hlf := Lib.hid HL3.out.left
              clear hon hon' hs4 hset hon4 hk5 hk4 hb4
              have HL5 := Lib.hid hL5
              clear hL5
              go_wp2_with fail
              refine (used_c w.heap.size bs (S.set G none) _ HL5.out.sto).mono ?_
              rintro e w5 ⟨rfl, rfl⟩
              have hne : ((Pg.used (S.set G none) : Int) != 50 - (lf + 1)) = false := by rw [bne_eq_false_iff_eq]; have := hlf.out; omega
              clear hlf hud
              go_wp2_with fail
              go_roundw
              case rel => exact ⟨j + 1, S.set G none, lf + 1, by omega, by go_num, rfl, HL5.out⟩
              case measure => simp [intOf]; omega
          · clear hA'
            go_wp2_with fail
            refine (used_c w.heap.size bs S w3 hL3.sto).mono ?_
            rintro e w5 ⟨rfl, rfl⟩
            have hne : ((Pg.used S : Int) != 50 - lf) = false := by rw [bne_eq_false_iff_eq]; have := hlf.out; omega
            clear hlf
            go_wp2_with fail
            go_roundw
            case rel => exact ⟨j + 1, S, lf, by omega, by go_num, rfl, hL3⟩
            case measure => simp [intOf]; omega
        · have hE : Pg.allocE s (N : Int) = 0 := by unfold Pg.allocE; rw [if_neg (by omega), if_neg (by rw [hL.len]; omega)]
          have hLl : Pg.allocL s (N : Int) = Pg.ids s N := by unfold Pg.allocL; rw [hE, if_pos rfl, Int.toNat_natCast]
          have hS : Pg.allocS s (N : Int) = Pg.fill s (Pg.ids s N) := by unfold Pg.allocS; rw [hE, if_pos rfl, Int.toNat_natCast]
          have hroom : N ≤ s.length - Pg.used s := by rw [hL.len]; omega
          have hlen := Lib.hid (Pg.length_ids hroom)
          have hleast := Lib.hid (fun (q : Nat) (hq : q < N) (h : q < (Pg.ids s N).length) => Pg.ids_least hroom hq h)
          have hsort := Lib.hid (List.pairwise_iff_getElem.1 (Pg.ids_sorted s N))
          have hlt50 := Lib.hid (fun (i : Nat) (h : i ∈ Pg.ids s N) => (Pg.mem_ids h).1)
          have htake := Lib.hid (fun (q : Nat) (hq : q ≤ N) => Pg.ids_take (s := s) hq)
          have hUsed := Lib.hid (Pg.used_fill hroom)
          have hLen := Lib.hid hL.len
          have Hleft := Lib.hid hleft
          clear hleft hroom hA
          have hl0 : 0 ≤ left := by have := Hleft.out; omega
          have hl1 : left ≤ 50 := by have := Hleft.out; omega
          go_wp2_with fail
          refine (alloc_c w.heap.size bs s N wr hL.sto (by omega) (by omega) (by omega)).mono ?_
          rw [hE, hLl, hS, hlen.out]
          rintro e wa ⟨A3, c3, rfl, ho3, hs3, hk3⟩
          have hz3 := hk3.size
          have hon3 := hL.on.keeps (by decide) hk3
          have hyo := hL.young
          have hbel := hL.below.trans (hk3.below (by omega))
          clear hE hLl hS hk3 hL
          obtain ⟨wo, rfl⟩ : ∃ wo : World, wo = wr := ⟨_, rfl⟩
          generalize hI : Pg.ids s N = I at *
          clear hI
          go_wp2_with fail
          go_loopw [14, 60] (fun v i wr => ∃ (q kk : Nat), q ≤ N ∧ i = .int .i64 q ∧ v = .int .i64 kk ∧ Hid (∀ h : q < I.length, kk ≤ I[q]) ∧ Blk wr w2.heap.size 28 (Pg.onV (Pg.fill s (I.take q))) ∧ Keeps [28] w.heap.size wa wr) (fun _ i _ => N - (intOf i).toNat)
          case atStart => exact ⟨0, 0, by omega, rfl, rfl, fun _ => Nat.zero_le _, hon3, Keeps.refl _ _ _⟩
          case round =>
            obtain ⟨q, kk, hq, rfl, rfl, hle, hon, hkw⟩ := hrel
            have hoi := Own.keeps ho3 (by decide) hkw
            by_cases hqN : q < N
            · have hqI : q < I.length := by rw [hlen.out]; exact hqN
              obtain ⟨gi, oi, rfl, hgi, _, hci⟩ := hoi.rd.get (k := q) (by rw [List.length_map]; exact hqI)
              rw [List.getElem_map] at hci
              have hle' := hle.out hqI
              obtain ⟨hfree, htaken⟩ := hleast.out q hqN hqI
              rw [← htake.out q (by omega)] at hfree htaken
              have hid50 := hlt50.out _ (List.getElem_mem hqI)
              rw [hLen.out] at hid50
              have htk := Lib.hid (List.take_succ_eq_append_getElem hqI)
              have hnx : Hid (∀ h : q + 1 < I.length, I[q] ≤ I[q + 1]) := fun h => by
                have := hsort.out q (q + 1) hqI h (by omega)
                omega
              generalize I[q] = id at *
              have hfl : (Pg.fill s (I.take q)).length = 50 := by rw [Pg.length_fill, hLen.out]
              have Hfree := Lib.hid hfree
              have Htaken := Lib.hid htaken
              have Hfl := Lib.hid hfl
              clear hfree htaken hfl
              go_wp2_with fail
              go_loop [14] (fun v => ∃ kk : Nat, kk ≤ id ∧ v = .int .i64 kk) (fun v => 50 - (intOf v).toNat)
              case atStart => exact ⟨kk, hle', rfl⟩
              case round =>
                obtain ⟨kk, hkk, rfl⟩ := hrel
                have hkI : (0 : Int) ≤ (kk : Int) := by omega
                have hkI' : (kk : Int) < 50 := by omega
                have hck := hon.cell kk
                rw [Pg.onV_get (by rw [Hfl.out]; omega)] at hck
                have hfk := hon.frozen kk
                by_cases hlt2 : kk < id
                · obtain ⟨p, hp⟩ := Htaken.out kk hlt2
                  rw [List.getElem?_eq_getElem (by rw [Hfl.out]; omega)] at hp
                  rw [Option.some.inj hp] at hck
                  simp only [Option.isSome_some] at hck
                  clear hp
                  go_wp2_with fail
                  go_round
                  case rel => exact ⟨kk + 1, by omega, by go_num⟩
                  case measure => simp [intOf]; omega
                · obtain rfl : kk = id := by omega
                  have hp := Hfree.out
                  rw [List.getElem?_eq_getElem (by rw [Hfl.out]; omega)] at hp
                  rw [Option.some.inj hp] at hck
                  simp only [Option.isSome_none] at hck
                  clear hp
                  have hset := hon.set_ kk (.bool (some (Pg.page kk [])).isSome)
                  rw [Pg.onV_set, ← Pg.fill_snoc, ← htk.out] at hset
                  have hkw2 := hkw.setCell hon (i := kk) (by simp) hyo (.bool true)
                  have Hset := Lib.hid hset
                  have Hkw2 := Lib.hid hkw2
                  clear hset hkw2
                  go_wp2_with fail
                  go_roundw
                  case rel => exact ⟨q + 1, kk, by omega, by go_num, rfl, hnx.out, Hset.out, Hkw2.out⟩
                  case measure => simp [intOf]; omega
            · obtain rfl : q = N := by omega
              have hIt := Lib.hid (List.take_of_length_le (l := I) (i := q) (by rw [hlen.out]; exact Nat.le_refl _))
              rw [hIt.out] at hon
              have hL3 : Least w wr bs w2.heap.size (Pg.fill s I) (left - q) :=
                ⟨hs3.keeps hkw (by decide), hon, by rw [Pg.length_fill, hLen.out], by have := hUsed.out; have := Hleft.out; omega, hyo, hbel.trans (hkw.below (by have := hbel.size; omega))⟩
              clear hon hoi hkw hs3 ho3 hon3 hbel
              obtain ⟨w3, rfl⟩ : ∃ x : World, x = wr := ⟨_, rfl⟩
              clear hle hleast hsort hlt50 htake hIt hlen
              generalize Pg.fill s I = S at *
              obtain ⟨lf, hlq⟩ : ∃ lf : Int, left - (q : Int) = lf := ⟨_, rfl⟩
              rw [hlq] at hL3
              clear hUsed
              have hz3 := hL3.below.size
              have hSl := hL3.len
              have hlf := Lib.hid hL3.left
              have hSu := Pg.used_le S
              rw [hSl] at hSu
              have hlf0 : 0 ≤ lf := by have := hlf.out; omega
              have hlf1 : lf ≤ 50 := by have := hlf.out; omega
              by_cases hjk : j < k
              · obtain ⟨bg, og, rfl, hbg, _, hcg⟩ := (hA'.below hL3.below).get (k := j) (by rw [List.length_map, Hm.out]; exact hjk)
                rw [List.getElem_map] at hcg
                unfold B at hcg
                generalize m[j]'(by rw [Hm.out]; exact hjk) = y at *
                obtain ⟨G, hG⟩ : ∃ G : Nat, (y.toNat : Int) % 50 = (G : Int) := ⟨y.toNat % 50, by omega⟩
                have hG50 : G < 50 := by have := y.toNat_lt; omega
                have hGI : (0 : Int) ≤ (G : Int) := by omega
                have hGI' : (G : Int) < 50 := by omega
                have hon := hL3.on.cell G
                rw [Pg.onV_get (by omega)] at hon
                have hon' := hL3.on.frozen G
                have hat := Pg.at_nat S G
                rw [List.getElem?_eq_getElem (show G < List.length S by omega)] at hat
                cases hq : S[G]'(by omega) with
                | none =>
                  rw [hq] at hon hat
                  have hE : Pg.freeE S (G : Int) = 2 := by unfold Pg.freeE; rw [hat]; rfl
                  have hS' : Pg.freeS S (G : Int) = S := by unfold Pg.freeS; rw [hat]; rfl
                  simp only [Option.isSome_none] at hon
                  have HL3 := Lib.hid hL3
                  have hb2 : (2 == (0 : Int)) = false := rfl
                  clear hL3 hat hlf hSl hq hA'
                  go_wp2_with fail
                  go_region_held3 (fun w' => w'.cell? ⟨w2.heap.size, G, none⟩ = some (.bool false))
                    (first | assumption | exact ((HL3.out.on.keeps (by decide) hk4).cell G).trans (((HL3.out.on).cell G).symm.trans hon))
                    ((go_at_call 11; refine (free_c w.heap.size bs S G _ (by exact HL3.out.sto.drewN 1) (by omega) (by omega)).mono ?_; rw [hE, hS']; rintro e w4 ⟨rfl, hs4, hk4'⟩; have hk4 : Keeps StT w.heap.size w3 w4 := ⟨hk4'.os, hk4'.tape, hk4'.output, hk4'.size, hk4'.block⟩))
                  have hL4 : Least w w4 bs w2.heap.size S lf := ⟨hs4, HL3.out.on.keeps (by decide) hk4, HL3.out.len, HL3.out.left, HL3.out.young, HL3.out.below.trans (hk4.below hz3)⟩
                  have hc4 := (hL4.on).cell G
                  rw [← (HL3.out.on).cell G, hon] at hc4
                  have hlf := Lib.hid hL4.left
                  clear hon hon'
                  go_wp2_with fail
                  refine (used_c w.heap.size bs S w4 hL4.sto).mono ?_
                  rintro e w5 ⟨rfl, rfl⟩
                  have hne : ((Pg.used S : Int) != 50 - lf) = false := by rw [bne_eq_false_iff_eq]; have := hlf.out; omega
                  clear hlf
                  go_wp2_with fail
                  go_roundw
                  case rel => exact ⟨j + 1, S, lf, by omega, by go_num, rfl, hL4⟩
                  case measure => simp [intOf]; omega
                | some pg =>
                  rw [hq] at hon hat
                  have hE : Pg.freeE S (G : Int) = 0 := by unfold Pg.freeE; rw [hat]; rfl
                  have hS' : Pg.freeS S (G : Int) = S.set G none := by unfold Pg.freeS; rw [hat]; rfl
                  have hud := Pg.used_drop (s := S) (i := G) (m := pg) (by rw [List.getElem?_eq_getElem (by omega), hq])
                  simp only [Option.isSome_some] at hon
                  have HL3 := Lib.hid hL3
                  have hb2 : (0 == (0 : Int)) = true := rfl
                  clear hL3 hat hlf hSl hq hA'
                  go_wp2_with fail
                  go_region_held3 (fun w' => w'.cell? ⟨w2.heap.size, G, none⟩ = some (.bool true))
                    (first | assumption | exact ((HL3.out.on.keeps (by decide) hk4).cell G).trans (((HL3.out.on).cell G).symm.trans hon))
                    ((go_at_call 11; refine (free_c w.heap.size bs S G _ (by exact HL3.out.sto.drewN 1) (by omega) (by omega)).mono ?_; rw [hE, hS']; rintro e w4 ⟨rfl, hs4, hk4'⟩; have hk4 : Keeps StT w.heap.size w3 w4 := ⟨hk4'.os, hk4'.tape, hk4'.output, hk4'.size, hk4'.block⟩))
                  have hon4 := HL3.out.on.keeps (by decide) hk4
                  have hc4 := hon4.cell G
                  rw [← (HL3.out.on).cell G, hon] at hc4
                  have hf4 := hon4.frozen G
                  have hb4 := HL3.out.below.trans (hk4.below hz3)
                  have hk5 := (Keeps.refl [28] w.heap.size w4).setCell hon4 (i := G) (by simp) HL3.out.young (.bool false)
                  have hset := hon4.set_ G (.bool (none : Option (List UInt8)).isSome)
                  rw [Pg.onV_set] at hset
                  have hL5 : Least w (w4.setCell ⟨w2.heap.size, G, none⟩ (.bool false)) bs w2.heap.size (S.set G none) (lf + 1) :=
                    ⟨hs4.keeps hk5 (by decide), hset, by rw [List.length_set]; exact HL3.out.len, by have := HL3.out.left; omega, HL3.out.young, hb4.trans (hk5.below hb4.size)⟩
                  have hlf := Lib.hid HL3.out.left
                  clear hon hon' hs4 hset hon4 hk5 hk4 hb4
                  have HL5 := Lib.hid hL5
                  clear hL5
                  go_wp2_with fail
                  refine (used_c w.heap.size bs (S.set G none) _ HL5.out.sto).mono ?_
                  rintro e w5 ⟨rfl, rfl⟩
                  have hne : ((Pg.used (S.set G none) : Int) != 50 - (lf + 1)) = false := by rw [bne_eq_false_iff_eq]; have := hlf.out; omega
                  clear hlf hud
                  go_wp2_with fail
                  go_roundw
                  case rel => exact ⟨j + 1, S.set G none, lf + 1, by omega, by go_num, rfl, HL5.out⟩
                  case measure => simp [intOf]; omega
              · clear hA'
                go_wp2_with fail
                refine (used_c w.heap.size bs S w3 hL3.sto).mono ?_
                rintro e w5 ⟨rfl, rfl⟩
                have hne : ((Pg.used S : Int) != 50 - lf) = false := by rw [bne_eq_false_iff_eq]; have := hlf.out; omega
                clear hlf
                go_wp2_with fail
                go_roundw
                case rel => exact ⟨j + 1, S, lf, by omega, by go_num, rfl, hL3⟩
                case measure => simp [intOf]; omega
    · go_wp2_with fail
      go_ret
      exact ⟨rfl, hL.below⟩
end Go.Proofs.Ytnlaeiadakdbkaa
