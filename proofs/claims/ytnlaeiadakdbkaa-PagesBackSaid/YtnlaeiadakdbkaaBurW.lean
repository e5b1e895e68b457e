/- The walk of PagesBursts: it returns true, and turns nothing that was there. -/
import Derived.Test.YtnlaeiadakdbkaaLw5a
import Derived.Test.YtnlaeiadakdbkaaPagG
import Derived.Test.YtnlaeiadakdbkaaPagB
import Derived.Test.YtnlaeiadakdbkaaStr
namespace Go.Proofs.Ytnlaeiadakdbkaa
open Go.RowKit

attribute [local go_sem ↓] Go.wp_at_zero Go.wp_at_succ

/-- The store at the head of a statement. -/
theorem sto_base {w : World} {B B' bs : Nat} {s : Pg.St} (h : Sto w B bs s) (hB : B' ≤ B) : Sto w B' bs s := by
  obtain ⟨bp, qs, h⟩ := h
  exact ⟨bp, qs, ⟨by have := h.hs; omega, by have := h.hp; omega, h.st, h.row, h.len, h.most, fun i l hi => by
    obtain ⟨g, h1, h2, h3, h4⟩ := h.some_ i l hi
    exact ⟨g, h1, by omega, h3, h4⟩, h.none_, h.inj⟩⟩

/-- What the rounds of a burst hand on: the page's bytes, which bits of the window were turned. -/
structure Burst (P0 l : List UInt8) (f k V : Nat) (t : Bool) : Prop where
  win : Crc.Win k V
  more : Crc.more 4294967295 l = Crc.turnN (512 - f) V
  len : l.length = 64
  on : t = true → V ≠ 0
  off : t = false → l = P0

set_option maxRecDepth 100000 in
set_option maxHeartbeats 4000000 in
theorem burst_walk (A : Option Addr) (l : List UInt8) (n c wh av bv : Nat) (w : World) (hl : l.length = n) (hnc : n ≤ c) (hc : c ≤ 9223372036854775807) (hA : Rd w A (Bs l)) (hA0 : A = none → n = 0 ∧ c = 0) (hwh : wh < 256) (hav : av < 65536) (hbv : bv < 4294967296) :
    Calls Try.prog 5 #[.slice A n c, .int .u8 (wh : Int), .int .u16 (av : Int), .int .u32 (bv : Int)] w fun e w' => e = .returned (.bool true) ∧ Below w.heap.size w w' := by
  obtain ⟨N, hN⟩ : ∃ N, min n 499 = N := ⟨_, rfl⟩
  have hX : (1 :: l.take 499).length = N + 1 := by rw [List.length_cons, List.length_take, hl]; omega
  have hys := Lib.hid (show (Bs (l.take 499)).length = N from by rw [List.length_map, List.length_take, hl]; omega)
  have hN5 : N ≤ 499 := by omega
  have hNn : N ≤ n := by omega
  have hmin : (if (499 : Int) < (n : Int) then (499 : Int) else (n : Int)) = (N : Int) := by split <;> omega
  clear hN
  go_enter Try.func5, Try.ntmps5
  go_wp2_with fail
  refine (shown_any w).mono ?_
  rintro e w1 ⟨rfl, hb1⟩
  have hz1 := hb1.size
  go_wp2_with fail
  refine (new_yes 60 w1 (by omega)).mono ?_
  rintro e w2 ⟨bs, rfl, hs2, hb2⟩
  have hz2 := hb2.size
  have hs2 := sto_base hs2 hz1
  have hb02 := hb1.trans (hb2.mono hz1)
  have hA2 := hA.below hb02
  clear hb1 hb2 hA
  generalize hs0 : (List.replicate 60 none : Pg.St) = s0 at *
  have Hs0 := Lib.hid hs0
  clear hs0
  have hrA : Rd (w2.alloc (.cells #[.int .u8 1] 5)) A (Bs (l.take 499)) := by
    intro hne
    have hne2 : Bs l ≠ [] := by
      intro e
      have : l = [] := by simpa using e
      subst this
      simp at hne
    obtain ⟨b0, o0, e0, hr0⟩ := hA2.alloc (.cells #[.int .u8 1] 5) hne2
    have := Rd.part hr0 0 499
    rw [List.drop_zero, ← List.map_take, Nat.add_zero] at this
    exact ⟨b0, o0, e0, this⟩
  have ho1 : Own (w2.alloc (.cells #[.int .u8 1] 5)) w.heap.size 5 1 (some ⟨w2.heap.size, 0, none⟩) 1 1 [.int .u8 1] := World.ownsRow_lit w2 #[.int .u8 1] 1 hb02.size (by unfold maxLen; omega) rfl
  have hb3 := hb02.alloc hb02.size (.cells #[.int .u8 1] 5)
  clear hA2
  go_wp2_with (first | (at_builtin; refine hold ?_) | (at_make; refine hold ?_))
  (with_reducible refine unhold ?_)
  refine wpList_apd rfl _ _ _ rfl E8 w.heap.size _ 1 _ [.int .u8 1] rfl ho1 _ N _ (Bs (l.take 499)) rfl (by rw [hys.out, Nat.mul_one]) hrA (Bs_one _) (N + 1) (Nat.add_comm ..) (Bs (1 :: l.take 499)) rfl (by omega) (by omega) hb3.size ?_
  intro A3 c3 w3 ho3 hg3 hat3
  have hb03 : Below w.heap.size w w3 := hb3.grown hg3 hb3.size ho1.row_ge
  have hz3 := hb03.size
  have hs3 : Sto w3 w.heap.size bs s0 := (hs2.below ((Below.refl _ _).alloc (Nat.le_refl _) _)).keeps (ho1.apd_keeps hg3) (by decide)
  have hcap3 := ho3.cap
  unfold maxLen at hcap3
  generalize hXX : 1 :: l.take 499 = X at *
  have hX' := Lib.hid hX
  have HX := Lib.hid hXX
  clear hXX hX hmin hs2 hb3 hrA hA0 hnc hc hl ho1 hat3 hg3
  have h60 : Hid (s0.length = 60 ∧ Pg.used s0 = 0) := by rw [← Hs0.out]; exact ⟨rfl, rfl⟩
  have hneed : Pg.need (N + 1) ≤ 9 ∧ 1 ≤ Pg.need (N + 1) := by unfold Pg.need; split <;> omega
  have hput := Lib.hid (Pg.put_holds (s := s0) (b := X) (by rw [hX'.out, h60.out.1, h60.out.2]; omega))
  have hlen := hput.out.2.1.len
  rw [hX'.out] at hlen
  clear hneed
  obtain ⟨hn1, hn9⟩ : 1 ≤ Pg.need (N + 1) ∧ Pg.need (N + 1) ≤ 9 := by unfold Pg.need; split <;> omega
  go_wp2_with fail
  refine (put_c w.heap.size bs s0 A3 X (N + 1) c3 w3 hs3 hX'.out (by omega) hcap3.1 (by omega) (Rs.of_own ho3 (by decide)) hz3).mono ?_
  rintro e w4 ⟨A4, c4, rfl, ho4, hs4, hk4⟩
  have hpE := hput.out.1
  generalize hPE : Pg.putE s0 X = PE at *
  subst hpE
  have hHolds := Lib.hid hput.out.2.1
  have hNod := Lib.hid hput.out.2.2.1
  have hIn := Lib.hid hput.out.2.2.2
  generalize Pg.putS s0 X = s1 at *
  generalize Pg.putL s0 X = I at *
  generalize Pg.need (N + 1) = M at *
  have hI := Lib.hid hlen
  rw [hlen] at ho4 ⊢
  clear hlen hput
  have ho34 := Own.keeps ho3 (by decide) hk4
  have hb04 := hb03.trans (hk4.below hz3)
  have hz4 := hb04.size
  clear hb02 hb03 hz3 hz2 hz1 hs3 hk4 ho3
  have hM0 : ((M : Int) == 0) = false := by rw [beq_eq_false_iff_ne]; omega
  obtain ⟨q, hq, hqM⟩ : ∃ q : Nat, (wh : Int) % (M : Int) = (q : Int) ∧ q < M := ⟨wh % M, by omega, Nat.mod_lt _ (by omega)⟩
  obtain ⟨f, hf, hf5⟩ : ∃ f : Nat, (av : Int) % 512 = (f : Int) ∧ f < 512 := ⟨av % 512, by omega, by omega⟩
  obtain ⟨ga, oa, rfl, hga, _, hca⟩ := ho4.rd.get (k := q) (by rw [List.length_map, hI.out]; exact hqM)
  have hqI : q < I.length := by rw [hI.out]; exact hqM
  rw [List.getElem_map] at hca
  have hidI := Lib.hid (List.getElem?_eq_getElem hqI)
  generalize I[q] = id at *
  obtain ⟨P0, hP0⟩ : ∃ P0, P0 = Pg.page id ((X.drop (56 * q)).take 56) := ⟨_, rfl⟩
  have hat0 := hHolds.out.at_ q id hidI.out
  rw [← hP0, Pg.at_nat] at hat0
  have hs1id : Hid (s1[id]? = some (some P0)) := by
    show _ = _
    cases e : s1[id]? with
    | none => rw [e] at hat0; cases hat0
    | some o => rw [e] at hat0; exact congrArg some hat0
  have hB0 : Hid (Burst P0 P0 f 0 0 false) := ⟨Crc.Win.zero 0, by rw [hP0, Crc.turnN_of_zero]; exact Crc.more_seal _, by rw [hP0]; exact Pg.length_page _ (by rw [List.length_take]; omega), fun h => (by cases h), fun _ => rfl⟩
  have hss : Hid (s1.set id (some P0) = s1) := by
    show _ = _
    apply List.ext_getElem?
    intro j
    rw [List.getElem?_set]
    split
    · rename_i e; subst e
      rw [hs1id.out, if_pos (List.getElem?_eq_some_iff.1 hs1id.out).1]
    · rfl
  have HP0 := Lib.hid hP0
  clear hP0 hat0
  have hid60 : id < 60 := by
    have := (hIn.out id (List.mem_of_getElem? hidI.out)).1
    rwa [h60.out.1] at this
  go_wp2_with fail
  rw [hf]
  try rw [hq]
  clear hf hq
  go_loopw [17, 66] (fun t i wr => ∃ (k V : Nat) (L : List UInt8) (tb : Bool), k ≤ 32 ∧ i = .int .i64 k ∧ t = .bool tb ∧ Hid (Burst P0 L f k V tb) ∧ Sto wr w.heap.size bs (s1.set id (some L)) ∧ Keeps StT w.heap.size w4 wr) (fun _ i _ => 32 - (intOf i).toNat)
  case atStart => exact ⟨0, 0, P0, false, by omega, rfl, rfl, hB0.out, by rw [hss.out]; exact hs4, Keeps.refl _ _ _⟩
  case round =>
    obtain ⟨k, V, L, tb, hk, rfl, rfl, hBu, hst, hkp⟩ := hrel
    by_cases hlt : k < 32
    · have hr8 : (f + k) % 8 < 8 := Nat.mod_lt _ (by omega)
      obtain ⟨m, hm, hm'⟩ : ∃ m : UInt8, (128 / 2 ^ ((f + k) % 8) : Int) = (m.toNat : Int) ∧ Hid (m.toNat = 2 ^ (7 - (f + k) % 8)) := by
        generalize (f + k) % 8 = r at *
        match r, hr8 with
        | 0, _ => exact ⟨128, rfl, rfl⟩
        | 1, _ => exact ⟨64, rfl, rfl⟩
        | 2, _ => exact ⟨32, rfl, rfl⟩
        | 3, _ => exact ⟨16, rfl, rfl⟩
        | 4, _ => exact ⟨8, rfl, rfl⟩
        | 5, _ => exact ⟨4, rfl, rfl⟩
        | 6, _ => exact ⟨2, rfl, rfl⟩
        | 7, _ => exact ⟨1, rfl, rfl⟩
      have Hm := Lib.hid hm
      clear hm hr8
      go_wp2_with fail
      · rw [Hm.out]
        refine (flip_c w.heap.size bs _ (id : Int) _ m wr hst (by omega) (by omega)).mono ?_
        rintro e w5 ⟨rfl, hs5, hk5⟩
        have hfl : Hid (Pg.flipS (s1.set id (some L)) (id : Int) (((f : Int) + k) / 8) m = s1.set id (some (Pg.flip L ((f + k) / 8) m))) := by
          show _ = _
          unfold Pg.flipS
          rw [Pg.at_nat, List.getElem?_set_self (List.getElem?_eq_some_iff.1 hs1id.out).1]
          show (if 0 ≤ ((f : Int) + k) / 8 ∧ ((f : Int) + k) / 8 < 64 then _ else _) = _
          rw [if_pos (by omega), Int.toNat_natCast, List.set_set, show (((f : Int) + k) / 8).toNat = (f + k) / 8 from by omega]
        have hBu' : Hid (Burst P0 (Pg.flip L ((f + k) / 8) m) f (k + 1) (V ^^^ 2 ^ (31 - k)) true) := by
          have ht := Crc.Win.take hBu.out.win hlt
          refine ⟨ht.1, ?_, by unfold Pg.flip; rw [List.length_set]; exact hBu.out.len, fun _ => ht.2, fun h => by cases h⟩
          unfold Pg.flip
          rw [Crc.more_bit L hBu.out.len m ((f + k) / 8) ((f + k) % 8) f k hlt (by omega) (by omega) (by omega) hm'.out, hBu.out.more, ← Crc.turnN_xor _ hBu.out.win.lt]
          exact Nat.lt_of_le_of_lt (Nat.pow_le_pow_right (by omega) (show 31 - k ≤ 31 by omega)) (by omega)
        rw [hfl.out] at hs5
        go_wp2_with fail
        go_roundw
        case rel => exact ⟨k + 1, _, _, true, by omega, by go_num, rfl, hBu'.out, hs5, hkp.trans hk5⟩
        case measure => simp [intOf]; omega
      all_goals
        go_roundw
        case rel => exact ⟨k + 1, V, L, tb, by omega, by go_num, rfl, ⟨hBu.out.win.skip, hBu.out.more, hBu.out.len, hBu.out.on, hBu.out.off⟩, hst, hkp⟩
        case measure => simp [intOf]; omega
    · obtain rfl : k = 32 := by omega
      have ho5 := Own.keeps ho4 (by decide) hkp
      have hb05 := hb04.trans (hkp.below hz4)
      have hz5 := hb05.size
      have hrI := Rd.of_own_js ho5
      have hbI : Hid (∀ i ∈ I.map Int.ofNat, -9223372036854775808 ≤ i ∧ i ≤ 9223372036854775807) := by
        intro i hi
        obtain ⟨j, hj, rfl⟩ := List.mem_map.1 hi
        have := (hIn.out j hj).1
        rw [h60.out.1] at this
        constructor
        · exact Int.le_trans (by decide) (Int.natCast_nonneg j)
        · show (j : Int) ≤ _
          omega
      have hIl : Hid ((I.map Int.ofNat).length = M) := by show _ = _; rw [List.length_map, hI.out]
      have ho35 := Own.keeps ho34 (by decide) hkp
      have hlt1 : id < s1.length := (List.getElem?_eq_some_iff.1 hs1id.out).1
      have hseq : (St8 X == St8 X) = true := by rw [St8_eq]; exact decide_eq_true rfl
      clear hs4 ho4 ho34 hkp hb04 hz4
      cases tb with
      | false =>
        obtain rfl := hBu.out.off rfl
        rw [hss.out] at hst
        have hrE : Pg.readE s1 (id : Int) = 0 := hHolds.out.read hidI.out
        have hget := hHolds.out.get
        rw [hX'.out] at hget
        go_wp2_with fail
        refine (read_c w.heap.size bs s1 (id : Int) wr hst (by omega) (by omega)).mono ?_
        rw [hrE]
        rintro e w6 ⟨A6, c6, rfl, ho6, hb6⟩
        have hst6 := hst.below hb6
        have hrI6 := hrI.below hb6
        have ho36 := Own.below ho35 hb6
        have hb06 := hb05.trans (hb6.mono hz5)
        have hz6 := hb06.size
        generalize (Pg.readB s1 (id : Int)).length = r6 at *
        go_wp2_with fail
        refine (get_c w.heap.size bs s1 _ (I.map Int.ofNat) M c4 ((N + 1 : Nat) : Int) w6 hst6 hIl.out (by omega) hrI6 hbI.out (by omega) (by omega)).mono ?_
        rw [hget.1, hget.2, hX'.out]
        rintro e w7 ⟨A7, c7, rfl, hr7, hb7⟩
        have hb07 := hb06.trans (hb7.mono hz6)
        have ho37 := Own.below ho36 hb7
        have hc1 := run_str w7 A7 X (N + 1) c7 hX'.out hr7
        have hc2 := run_str w7 A3 X (N + 1) c3 hX'.out ho37.rd
        have hd1 := run_str w7.drew A7 X (N + 1) c7 hX'.out hr7
        have hd2 := run_str w7.drew A3 X (N + 1) c3 hX'.out ho37.rd
        clear hrE hget
        go_wp2_with fail
        go_ret
        exact ⟨rfl, hb07⟩
      | true =>
        have hok : Pg.okPage (id : Int) L = false := Pg.burst_told (hBu.out.on rfl) hBu.out.win hBu.out.more
        have hatL : Pg.at_ (s1.set id (some L)) (id : Int) = some L := by rw [Pg.at_nat, List.getElem?_set_self hlt1]; rfl
        have hrE : Hid (Pg.readE (s1.set id (some L)) (id : Int) = 6) := by show _ = _; unfold Pg.readE; rw [hatL]; simp [hok]
        have hrB : Hid (Pg.readB (s1.set id (some L)) (id : Int) = []) := by show _ = _; unfold Pg.readB; rw [hatL]; simp [hok]
        have hgE : Hid (Pg.getE (s1.set id (some L)) (I.map Int.ofNat) ((N + 1 : Nat) : Int) = 6) := by
          have hne : Pg.readE (s1.set id (some L)) (id : Int) ≠ 0 := by rw [hrE.out]; decide
          have hqm : q < (I.map Int.ofNat).length := by rw [hIl.out]; exact hqM
          have hgq : (I.map Int.ofNat)[q] = (id : Int) := by
            have := hidI.out
            rw [List.getElem?_eq_getElem (by rw [hI.out]; exact hqM)] at this
            rw [List.getElem_map]
            exact congrArg Int.ofNat (Option.some.inj this)
          have h0 : Pg.getsE (s1.set id (some L)) ((I.map Int.ofNat).take q) = 0 := by
            refine Pg.getsE_all fun i hi => ?_
            obtain ⟨j, hj, rfl⟩ := List.getElem_of_mem hi
            rw [List.length_take] at hj
            have hjq : j < q := by omega
            have hjI : j < I.length := by rw [hI.out]; omega
            rw [List.getElem_take, List.getElem_map]
            have hne2 : id ≠ I[j] := by
              intro e
              have h1 := hidI.out
              rw [e, ← List.getElem?_eq_getElem hjI] at h1
              have := (List.getElem?_inj (by rw [hI.out]; exact hqM) hNod.out).1 h1
              omega
            have h1 := hHolds.out.read (List.getElem?_eq_getElem hjI)
            unfold Pg.readE at h1 ⊢
            rw [show Int.ofNat I[j] = ((I[j] : Nat) : Int) from rfl, Pg.at_nat]
            rw [Pg.at_nat] at h1
            rw [List.getElem?_set_ne hne2]
            exact h1
          have h2 := Pg.getsE_take hqm h0 (by rw [hgq]; exact hne)
          rw [hgq, hrE.out] at h2
          show _ = _
          have hl := hHolds.out.len
          rw [hX'.out] at hl
          unfold Pg.getE
          rw [if_neg (by rw [Pg.needI_nat, List.length_map, hl]; omega), h2]
          rfl
        have hgB : Hid (Pg.getB (s1.set id (some L)) (I.map Int.ofNat) ((N + 1 : Nat) : Int) = []) := by show _ = _; unfold Pg.getB; rw [hgE.out]; rfl
        go_wp2_with fail
        refine (read_c w.heap.size bs _ (id : Int) wr hst (by omega) (by omega)).mono ?_
        rw [hrE.out, hrB.out]
        rintro e w6 ⟨A6, c6, rfl, ho6, hb6⟩
        have hst6 := hst.below hb6
        have hrI6 := hrI.below hb6
        have ho36 := Own.below ho35 hb6
        have hb06 := hb05.trans (hb6.mono hz5)
        have hz6 := hb06.size
        go_wp2_with fail
        refine (get_c w.heap.size bs _ _ (I.map Int.ofNat) M c4 ((N + 1 : Nat) : Int) w6 hst6 hIl.out (by omega) hrI6 hbI.out (by omega) (by omega)).mono ?_
        rw [hgE.out, hgB.out]
        rintro e w7 ⟨A7, c7, rfl, hr7, hb7⟩
        have hb07 := hb06.trans (hb7.mono hz6)
        go_wp2_with fail
        go_ret
        exact ⟨rfl, hb07⟩
end Go.Proofs.Ytnlaeiadakdbkaa
