/- The walk of PagesBack. -/
import Derived.Test.YtnlaeiadakdbkaaFew
import Derived.Test.YtnlaeiadakdbkaaDoeD
import Derived.Test.YtnlaeiadakdbkaaBurW
import Derived.Test.YtnlaeiadakdbkaaSetM
import Derived.Test.YtnlaeiadakdbkaaBackN
namespace Go.Proofs.Ytnlaeiadakdbkaa
open Go.RowKit

attribute [local go_sem ↓] Go.wp_at_zero Go.wp_at_succ

theorem doed_c (w0 w : World) (bs rs : Nat) (s r : Pg.St) (a : ActM) (hT : TwoD w0 w bs rs s r) (h : a.ok w0) (hs : a.small) :
    Calls Try.prog 16 #[.pointer (some ⟨bs, 0, none⟩), .pointer (some ⟨rs, 0, none⟩), .agg #[.int .u8 a.kind, .int .i64 a.at', .int .i64 a.nn, .slice a.A a.bn a.bc, .slice a.L a.ln a.lc, .int .u8 (a.m.toNat : Int)]] w fun e w' => (∃ t, e = .returned (.bool t)) ∧ TwoD w0 w' bs rs (a.does s) (a.does r) ∧ Keeps TwoT w0.heap.size w w' := by
  have h7 : a.kind % 7 = 0 ∨ a.kind % 7 = 1 ∨ a.kind % 7 = 2 ∨ a.kind % 7 = 3 ∨ a.kind % 7 = 4 ∨ a.kind % 7 = 5 ∨ a.kind % 7 = 6 := by omega
  rcases h7 with hk | hk | hk | hk | hk | hk | hk
  · exact doed_0 w0 w bs rs s r _ _ _ a.b a.l a.m a.A a.L _ _ _ _ hT h.bl h.ll h.rA h.rL hs.1 hs.2 h.bc h.bm hk h.k0 h.at' h.nn h.lb
  · exact doed_1 w0 w bs rs s r _ _ _ a.b a.l a.m a.A a.L _ _ _ _ hT h.bl h.ll h.rA h.rL hs.1 hs.2 h.bc h.bm hk h.k0 h.at' h.nn h.lb
  · exact doed_2 w0 w bs rs s r _ _ _ a.b a.l a.m a.A a.L _ _ _ _ hT h.bl h.ll h.rA h.rL hs.1 hs.2 h.bc h.bm hk h.k0 h.at' h.nn h.lb
  · exact doed_3 w0 w bs rs s r _ _ _ a.b a.l a.m a.A a.L _ _ _ _ hT h.bl h.ll h.rA h.rL hs.1 hs.2 h.bc h.bm hk h.k0 h.at' h.nn h.lb
  · exact doed_4 w0 w bs rs s r _ _ _ a.b a.l a.m a.A a.L _ _ _ _ hT h.bl h.ll h.rA h.rL hs.1 hs.2 h.bc h.bm hk h.k0 h.at' h.nn h.lb
  · exact doed_5 w0 w bs rs s r _ _ _ a.b a.l a.m a.A a.L _ _ _ _ hT h.bl h.ll h.rA h.rL hs.1 hs.2 h.bc h.bm hk h.k0 h.at' h.nn h.lb
  · exact doed_6 w0 w bs rs s r _ _ _ a.b a.l a.m a.A a.L _ _ _ _ hT h.bl h.ll h.rA h.rL hs.1 hs.2 h.bc h.bm hk h.k0 h.at' h.nn h.lb
theorem rsto_base2 {w : World} {B B' bs : Nat} {s : Pg.St} (h : RSto w B bs s) (hB : B' ≤ B) : RSto w B' bs s := by
  obtain ⟨bp, h⟩ := h
  exact ⟨bp, ⟨by have := h.hs; omega, by have := h.hp; omega, h.st, h.row, h.most, h.lens⟩⟩
theorem rd_take {w : World} {A : Option Addr} {xs : List Value} (h : Rd w A xs) (n : Nat) : Rd w A (xs.take n) := by
  intro hne
  have hne2 : xs ≠ [] := by
    rintro rfl
    simp at hne
  obtain ⟨b, o, e, hr⟩ := h hne2
  have := Rd.part hr 0 n
  rw [List.drop_zero, Nat.add_zero] at this
  exact ⟨b, o, e, this⟩
theorem min500 (n : Nat) : ∃ N : Nat, (if (500 : Int) < (n : Int) then (500 : Int) else (n : Int)) = (N : Int) ∧ (if 500 < n then (500 : Int) else (n : Int)) = (N : Int) ∧ N ≤ 500 ∧ N ≤ n ∧ N = min n 500 := by
  by_cases h : 500 < n
  · exact ⟨500, by rw [if_pos (by omega)]; rfl, by rw [if_pos h]; rfl, by omega, by omega, by omega⟩
  · exact ⟨n, by rw [if_neg (by omega)], by rw [if_neg h], by omega, by omega, by omega⟩

set_option maxHeartbeats 4000000 in
set_option maxRecDepth 100000 in
theorem back_walk (A1 A2 : Option Addr) (l1 l2 : List UInt8) (n1 c1 n2 c2 : Nat) (A3 : Option Addr) (ys : List ActM) (n3 c3 : Nat) (w : World)
    (hl1 : l1.length = n1) (hnc1 : n1 ≤ c1) (hc1 : c1 ≤ 9223372036854775807) (hA1 : Rd w A1 (Bs l1)) (hl2 : l2.length = n2) (hnc2 : n2 ≤ c2) (hc2 : c2 ≤ 9223372036854775807) (hA2 : Rd w A2 (Bs l2))
    (hn3 : ys.length = n3) (hnc3 : n3 ≤ c3) (hc3 : c3 ≤ 9223372036854775807) (hr3 : Rd w A3 (acts ys)) (hok : ∀ a ∈ ys, a.ok w) :
    Calls Try.prog 4 #[.slice A1 n1 c1, .slice A2 n2 c2, .slice A3 n3 c3] w fun e w' => e = .returned (.bool true) ∧ Below w.heap.size w w' := by
  have Hn3 := Lib.hid hn3
  have Hok := Lib.hid hok
  clear hn3 hok
  obtain ⟨N1, hm1, hm1', hN1, hNn1, hNe1⟩ := min500 n1
  obtain ⟨N2, hm2, hm2', hN2, hNn2, hNe2⟩ := min500 n2
  have hX1 : (l1.take 500).length = N1 := by rw [List.length_take, hl1]; omega
  have hX2 : (l2.take 500).length = N2 := by rw [List.length_take, hl2]; omega
  have hP1 : Rd w A1 (Bs (l1.take 500)) := by have := rd_take hA1 500; rwa [← List.map_take] at this
  have hP2 : Rd w A2 (Bs (l2.take 500)) := by have := rd_take hA2 500; rwa [← List.map_take] at this
  generalize l1.take 500 = X at *
  generalize l2.take 500 = Y at *
  have HX := Lib.hid hX1
  have HY := Lib.hid hX2
  clear hX1 hX2 hA1 hA2 hl1 hl2 hNe1 hNe2
  have hmm := @run_makeMap Try.prog
  have hw1 : IntKind.i64.wrap (N1 : Int) = (N1 : Int) := by rw [IntKind.wrap_i64]; omega
  have hw2 : IntKind.i64.wrap (N2 : Int) = (N2 : Int) := by rw [IntKind.wrap_i64]; omega
  go_enter Try.func4, Try.ntmps4
  go_wp2_with fail
  refine (shown_any w).mono ?_
  rintro e w1 ⟨rfl, hb1⟩
  have hz1 := hb1.size
  go_wp2_with fail
  refine (new_yes 60 w1 (by omega)).mono ?_
  rintro e w2 ⟨bs, rfl, hs2, hb2⟩
  have hz2 := hb2.size
  go_wp2_with fail
  refine (rnew_yes 60 w2 (by omega)).mono ?_
  rintro e w3 ⟨rs, rfl, hs3, hb3⟩
  have hz3 := hb3.size
  have hT3 : TwoD w w3 bs rs (List.replicate 60 none) (List.replicate 60 none) := ⟨sto_base (hs2.below hb3) hz1, rsto_base2 hs3 (by omega), (hb1.trans (hb2.mono hz1)).trans (hb3.mono (by omega))⟩
  have hall := Lib.hid (Kept.two (s := List.replicate 60 none) List.length_replicate rfl HX.out HY.out hN1 hN2)
  clear hs2 hs3 hb1 hb2 hb3
  generalize (List.replicate 60 none : Pg.St) = s0 at *
  obtain ⟨r0, hr0⟩ : ∃ r, r = s0 := ⟨_, rfl⟩
  have hT3 : TwoD w w3 bs rs s0 r0 := by rw [hr0]; exact hT3
  clear hr0
  go_wp2_with fail
  go_region
  go_wp2_with fail
  refine (put_c w.heap.size bs s0 A1 X N1 c1 _ (hT3.sto.drewN _) HX.out (by omega) (by omega) hc1 (rs_arg hP1 (below_drewN' hT3.below _)) hT3.below.size).mono ?_
  rintro e w4 ⟨A4, c4, rfl, ho4, hs4, hk4⟩
  have hk34 : Keeps StT w.heap.size w3 w4 := ⟨hk4.os, hk4.tape, hk4.output, hk4.size, hk4.block⟩
  have hT4 : TwoD w w4 bs rs (Pg.putS s0 X) r0 := ⟨hs4, hT3.ref.keeps hk34 (by decide), hT3.below.trans (hk34.below hT3.below.size)⟩
  have h45 := hT4.below.size
  have hpE := hall.out.1
  generalize hPE : Pg.putE s0 X = PE at *
  subst hpE
  have Hrest := Lib.hid hall.out.2
  clear hall hs4 hT3 hk4 hk34 hPE
  generalize Pg.putS s0 X = s1 at *
  generalize Pg.putL s0 X = I at *
  go_wp2_with fail
  refine (put_c w.heap.size bs s1 A2 Y N2 c2 w4 hT4.sto HY.out (by omega) (by omega) hc2 (rs_arg hP2 hT4.below) h45).mono ?_
  rintro e w5 ⟨A5, c5, rfl, ho5, hs5, hk5⟩
  have hT5 : TwoD w w5 bs rs (Pg.putS s1 Y) r0 := ⟨hs5, hT4.ref.keeps hk5 (by decide), hT4.below.trans (hk5.below h45)⟩
  have ho45 := Own.keeps ho4 (by decide) hk5
  have hz5 := hT5.below.size
  have hpE := Hrest.out.1
  generalize hPE : Pg.putE s1 Y = PE at *
  subst hpE
  have HKept := Lib.hid Hrest.out.2.1
  have HNod := Lib.hid Hrest.out.2.2.1
  have H60 := Lib.hid Hrest.out.2.2.2.1
  have HI := Lib.hid Hrest.out.2.2.2.2.1
  have HK := Lib.hid Hrest.out.2.2.2.2.2.1
  obtain ⟨hM1, hM2⟩ := Hrest.out.2.2.2.2.2.2
  clear Hrest hs5 hT4 hk5 hPE ho4
  generalize Pg.putS s1 Y = s2 at *
  generalize Pg.putL s1 Y = K at *
  generalize Pg.need N1 = M1 at *
  generalize Pg.need N2 = M2 at *
  have hI := HI.out
  have hK := HK.out
  rw [hI] at ho45 ⊢
  rw [hK] at ho5 ⊢
  clear hI hK
  obtain ⟨W5, hW5⟩ : ∃ W, W = (w5.alloc (.map #[] 0)).alloc (.cells #[] 3) := ⟨_, rfl⟩
  have hset0 : SetAt (w5.alloc (.map #[] 0)) w5.heap.size 0 fun _ => false := SetAt.made w5
  have ho1 : Own ((w5.alloc (.map #[] 0)).alloc (.cells #[] 3)) w5.heap.size 3 1 (some ⟨(w5.alloc (.map #[] 0)).heap.size, 0, none⟩) 0 0 [] := World.ownsRow_made (w5.alloc (.map #[] 0)) #[] 0 (by rw [World.size_alloc]; omega) (by unfold maxLen; omega) rfl
  rw [World.size_alloc] at ho1
  have hk50 : Keeps [3] w5.heap.size (w5.alloc (.map #[] 0)) ((w5.alloc (.map #[] 0)).alloc (.cells #[] 3)) := (Keeps.refl _ _ _).alloc _
  have hb50 : Below w5.heap.size w5 (w5.alloc (.map #[] 0)) := (Below.refl _ _).alloc (Nat.le_refl _) _
  have hs50 : w5.heap.size ≤ (w5.alloc (.map #[] 0)).heap.size := hb50.size
  have hs51 : w5.heap.size ≤ ((w5.alloc (.map #[] 0)).alloc (.cells #[] 3)).heap.size := Nat.le_trans hs50 hk50.size
  have hrI : Rd ((w5.alloc (.map #[] 0)).alloc (.cells #[] 3)) A4 (Is I) := ho45.rd.below (hb50.trans (hk50.below hs50))
  clear hW5
  go_wp2_with (first | (at_builtin; refine hold ?_) | (at_make; refine hold ?_))
  (with_reducible refine unhold ?_)
  refine wpList_apd rfl _ _ _ rfl Eint w5.heap.size _ 0 _ [] rfl ho1 _ M1 _ (Is I) rfl (by rw [List.length_map, HI.out, Nat.mul_one]) hrI (Is_one _) M1 (Nat.zero_add _) (Is I) rfl (by omega) (by omega) hs51 ?_
  intro A6 c6 w6 ho6 hg6 _
  have hk6 := hk50.trans (ho1.apd_keeps hg6)
  have hs6 := Nat.le_trans hs51 (ho1.apd_keeps hg6).size
  have hrK : Rd w6 A5 (Is K) := ho5.rd.below (hb50.trans (hk6.below hs50))
  clear hrI ho1
  go_wp2_with (first | (at_builtin; refine hold ?_) | (at_make; refine hold ?_))
  (with_reducible refine unhold ?_)
  refine wpList_apd rfl _ _ _ rfl Eint w5.heap.size _ M1 _ (Is I) rfl ho6 _ M2 _ (Is K) rfl (by rw [List.length_map, HK.out, Nat.mul_one]) hrK (Is_one _) (M1 + M2) rfl (Is (I ++ K)) (by simp) (by omega) (by omega) hs6 ?_
  intro A7 c7 w7 ho7 hg7 _
  have hk7 := hk6.trans (ho6.apd_keeps hg7)
  have hb57 := hb50.trans (hk7.below hs50)
  have hT7 := hT5.young hb57
  have hset7 := hset0.kept hk7
  have ho47 := Own.below ho45 hb57
  have ho57 := Own.below ho5 hb57
  have HIK : Hid ((I ++ K).length = M1 + M2) := by show _ = _; rw [List.length_append, HI.out, HK.out]
  have hr7 := ho7.rd
  have hcap7 := ho7.cap
  unfold maxLen at hcap7
  have Hr3 := Lib.hid hr3
  clear hset0 hk50 hb50 hs50 hs51 hg6 hg7 hk6 hk7 hs6 hrK ho6 ho45 ho5 hT5 ho7
  generalize hIK : I ++ K = IK at *
  have HIKe := Lib.hid hIK
  clear hIK
  go_wp2_with fail
  go_loopw [84] (fun i wr => ∃ j : Nat, j ≤ M1 + M2 ∧ i = .int .i64 j ∧ SetAt wr w5.heap.size j (mineOf (IK.take j)) ∧ Cel w5.heap.size w7 wr) (fun i _ => M1 + M2 - (intOf i).toNat)
  case atStart => exact ⟨0, by omega, rfl, by rw [List.take_zero]; exact hset7, Cel.refl _ _⟩
  case round =>
    obtain ⟨j, hj, rfl, hst, hcel⟩ := hrel
    by_cases hlt : j < M1 + M2
    · have hjl : j < IK.length := by rw [HIK.out]; exact hlt
      obtain ⟨ga, oa, rfl, hga, _, hca⟩ := (hcel.rd hr7).get (k := j) (by rw [List.length_map]; exact hjl)
      rw [List.getElem_map] at hca
      have hid60 := H60.out _ (List.getElem_mem hjl)
      have hlk := hst.look (z := ((IK[j] : Nat) : Int)) (by omega) (by omega)
      rw [mineOf_not HNod.out hjl] at hlk
      obtain ⟨wn, hup, hstn, hceln⟩ := hst.put (B := w5.heap.size) (Nat.le_refl _) (by unfold maxLen; omega) (z := ((IK[j] : Nat) : Int)) (by omega) (by omega)
      have hfun : (fun y => decide (y = ((IK[j] : Nat) : Int)) || mineOf (IK.take j) y) = mineOf (IK.take (j + 1)) := by
        funext y
        rw [mineOf_snoc, List.take_add_one, List.getElem?_eq_getElem hjl]
        rfl
      rw [hfun] at hstn
      have Hfun := Lib.hid hfun
      clear hfun
      generalize IK[j] = id at *
      go_wp2_with fail
      go_roundw
      case rel => exact ⟨j + 1, by omega, by go_num, hstn, hcel.trans hceln⟩
      case measure => simp [intOf]; omega
    · obtain rfl : j = M1 + M2 := by omega
      have htk : IK.take (M1 + M2) = IK := List.take_of_length_le (by rw [HIK.out]; exact Nat.le_refl _)
      rw [htk] at hst
      have hT8 : TwoD w wr bs rs s2 r0 := ⟨hcel.sto hT7.sto, hcel.rsto hT7.ref, hT7.below.trans (hcel.below.mono hz5)⟩
      have ho48 := hcel.own ho47
      have ho58 := hcel.own ho57
      have hr8 := hr3.below hT8.below
      clear ho47 ho57 hset7 hr7 hcel hr3 htk hT7 hb57
      obtain ⟨w8, rfl⟩ : ∃ x : World, x = wr := ⟨_, rfl⟩
      go_wp2_with fail
      refine (few_c w w8 A3 ys n3 c3 Hn3.out hnc3 hc3 hr8 Hok.out).mono ?_
      rintro e w9 ⟨⟨k, hkn, hk80, hsm, rfl⟩, rfl⟩
      have Hsm := Lib.hid hsm
      clear hsm hr8
      have hr3 : Rd w A3 (acts ys) := ‹Hid (Rd w A3 (acts ys))›
      go_wp2_with fail
      go_loopw [97] (fun i wr => ∃ (j : Nat) (s r : Pg.St), j ≤ k ∧ i = .int .i64 j ∧ TwoD w wr bs rs s r ∧ Hid (Kept s I K X Y) ∧ SetAt wr w5.heap.size (M1 + M2) (mineOf IK) ∧ Own wr w3.heap.size 3 1 A4 M1 c4 (Is I) ∧ Own wr w4.heap.size 3 1 A5 M2 c5 (Is K)) (fun i _ => k - (intOf i).toNat)
      case atStart => exact ⟨0, s2, r0, by omega, rfl, hT8, HKept.out, hst, ho48, ho58⟩
      case round =>
        clear hT8 ho48 ho58 hst
        obtain ⟨j, s, r, hj, rfl, hT, HKp, hst, ho48, ho58⟩ := hrel
        by_cases hlt : j < k
        · have hjl : j < ys.length := by rw [Hn3.out]; omega
          have hne : acts ys ≠ [] := by
            intro e
            have := acts_get ys j _ 0 (List.getElem?_eq_getElem hjl) (by omega)
            rw [e] at this
            cases this
          obtain ⟨b0, o0, rfl, hrr⟩ := (hr3.below hT.below) hne
          have hq0 := hrr (j * 6 + 0) _ (by rw [acts_get ys j _ 0 (List.getElem?_eq_getElem hjl) (by omega)]; rfl)
          have hq1 := hrr (j * 6 + 1) _ (by rw [acts_get ys j _ 1 (List.getElem?_eq_getElem hjl) (by omega)]; rfl)
          have hq2 := hrr (j * 6 + 2) _ (by rw [acts_get ys j _ 2 (List.getElem?_eq_getElem hjl) (by omega)]; rfl)
          have hq3 := hrr (j * 6 + 3) _ (by rw [acts_get ys j _ 3 (List.getElem?_eq_getElem hjl) (by omega)]; rfl)
          have hq4 := hrr (j * 6 + 4) _ (by rw [acts_get ys j _ 4 (List.getElem?_eq_getElem hjl) (by omega)]; rfl)
          have hq5 := hrr (j * 6 + 5) _ (by rw [acts_get ys j _ 5 (List.getElem?_eq_getElem hjl) (by omega)]; rfl)
          rw [Nat.add_zero] at hq0
          rw [← Nat.add_assoc] at hq1 hq2 hq3 hq4 hq5
          have Ha := Lib.hid (Hok.out _ (List.getElem_mem hjl))
          have Hsa := Lib.hid (Hsm.out (ys[j]) (List.mem_take_iff_getElem.2 ⟨j, by omega, rfl⟩))
          generalize ys[j] = a at *
          have hdc := Lib.hid (fun W hTW => doed_c w W bs rs s r a hTW Ha.out Hsa.out)
          have hrL := Ha.out.rL
          have hkin := Ha.out.k0
          have hlm := Ha.out.lm
          generalize hLL : a.L = LL at *
          have HLL := Lib.hid hLL
          clear hrr hne hr3 hLL
          have hb1 : Below wr.heap.size wr (wr.alloc (.cells #[.int .u8 a.kind, .int .i64 a.at', .int .i64 a.nn, .slice a.A a.bn a.bc, .slice LL a.ln a.lc, .int .u8 (a.m.toNat : Int)] 43)) := (Below.refl _ _).alloc (Nat.le_refl _) _
          have hTW := hT.young hb1
          have hstW := hst.kept (Keeps.of_below (T := []) (B := 0) hb1)
          have hoW4 := Own.below ho48 hb1
          have hoW5 := Own.below ho58 hb1
          have hlk1 := hstW.look (z := a.at') Ha.out.at'.1 Ha.out.at'.2
          have hrLW := (hrL.below hTW.below)
          have hcases : (mineOf IK a.at' = true ∧ 0 < a.kind % 7 ∧ a.kind % 7 < 4 ∧ Hid (clash1 IK a = true)) ∨ (mineOf IK a.at' = true ∧ 0 < a.kind % 7 ∧ ¬ a.kind % 7 < 4 ∧ Hid (clash1 IK a = false)) ∨
              (mineOf IK a.at' = true ∧ ¬ 0 < a.kind % 7 ∧ True ∧ Hid (clash1 IK a = false)) ∨ (mineOf IK a.at' = false ∧ True ∧ True ∧ Hid (clash1 IK a = false)) := by
            unfold Hid clash1
            by_cases h1 : mineOf IK a.at' = true
            · by_cases h2 : 0 < a.kind % 7
              · by_cases h3 : a.kind % 7 < 4
                · exact .inl ⟨h1, h2, h3, by rw [h1, decide_eq_true h2, decide_eq_true h3]; rfl⟩
                · exact .inr (.inl ⟨h1, h2, h3, by rw [h1, decide_eq_true h2, decide_eq_false h3]; rfl⟩)
              · exact .inr (.inr (.inl ⟨h1, h2, trivial, by rw [h1, decide_eq_false h2]; rfl⟩))
            · have h1 : mineOf IK a.at' = false := by simpa using h1
              exact .inr (.inr (.inr ⟨h1, trivial, trivial, by rw [h1]; rfl⟩))
          clear hT hst ho48 ho58 hrL
          rcases hcases with ⟨h1, h2, h3, Hc⟩ | ⟨h1, h2, h3, Hc⟩ | ⟨h1, h2, h3, Hc⟩ | ⟨h1, h2, h3, Hc⟩
          all_goals
            rw [h1] at hlk1
            clear h1
            go_wp2_with fail
            obtain ⟨W, hWe⟩ : ∃ W : World, W = wr.alloc (.cells #[.int .u8 a.kind, .int .i64 a.at', .int .i64 a.nn, .slice a.A a.bn a.bc, .slice LL a.ln a.lc, .int .u8 (a.m.toNat : Int)] 43) := ⟨_, rfl⟩
            go_loopw [23, 120] (fun t i wx => ∃ q : Nat, q ≤ a.ln ∧ t = .bool (clashN IK a q) ∧ i = .int .i64 q ∧ wx = wr.alloc (.cells #[.int .u8 a.kind, .int .i64 a.at', .int .i64 a.nn, .slice a.A a.bn a.bc, .slice LL a.ln a.lc, .int .u8 (a.m.toNat : Int)] 43)) (fun _ i _ => a.ln - (intOf i).toNat)
            case atStart => exact ⟨0, by omega, by rw [clashN_zero, Hc.out], rfl, rfl⟩
            case round =>
              obtain ⟨q, hq, rfl, rfl, rfl⟩ := hrel
              by_cases hlq : q < a.ln
              · have hql : q < a.l.length := by rw [Ha.out.ll]; exact hlq
                obtain ⟨ga, oa, rfl, hga, _, hca⟩ := hrLW.get (k := q) (by rw [List.length_map]; exact hql)
                rw [List.getElem_map] at hca
                have hb := Ha.out.lb _ (List.getElem_mem hql)
                have hsucc := Lib.hid (clashN_succ IK a hql)
                have hlk2 := hstW.look hb.1 hb.2
                generalize a.l[q] = id at *
                cases hcl : clashN IK a q
                · go_wp2_with fail
                  go_roundw
                  case rel => exact ⟨q + 1, by omega, by rw [hsucc.out, hcl]; rfl, by go_num, by trivial⟩
                  case measure => simp [intOf]; omega
                · go_wp2_with fail
                  go_roundw
                  case rel => exact ⟨q + 1, by omega, by rw [hsucc.out, hcl]; rfl, by go_num, by trivial⟩
                  case measure => simp [intOf]; omega
              · obtain rfl : q = a.ln := by omega
                cases hcl : clashN IK a a.ln
                · have hsp : Hid (∀ p ∈ IK, a.spares p) := spares_of (by rw [Ha.out.ll]; exact hcl)
                  clear hcl
                  have hcd := hdc.out _ hTW
                  go_wp2_with fail
                  refine hcd.mono ?_
                  rintro e w10 ⟨⟨t, rfl⟩, hT10, hk10⟩
                  go_wp2_with fail
                  go_roundw
                  case rel => exact ⟨j + 1, _, _, by omega, by go_num, hT10, HKp.out.step (by rw [HIKe.out]; exact hsp.out), hstW.kept hk10, Own.keeps hoW4 (by decide) hk10, Own.keeps hoW5 (by decide) hk10⟩
                  case measure => simp [intOf]; omega
                · go_wp2_with fail
                  go_roundw
                  case rel => exact ⟨j + 1, s, r, by omega, by go_num, hTW, HKp.out, hstW, hoW4, hoW5⟩
                  case measure => simp [intOf]; omega
        · obtain rfl : j = k := by omega
          obtain ⟨w9, rfl⟩ : ∃ x : World, x = wr := ⟨_, rfl⟩
          have hrI := Rd.of_own_js ho48
          have hbd : ∀ L : List Nat, (∀ i ∈ L, i < 60) → ∀ i ∈ L.map Int.ofNat, -9223372036854775808 ≤ i ∧ i ≤ 9223372036854775807 := by
            intro L hL i hi
            obtain ⟨t, ht, rfl⟩ := List.mem_map.1 hi
            have := hL t ht
            constructor
            · exact Int.le_trans (by decide) (Int.natCast_nonneg t)
            · show (t : Int) ≤ _
              omega
          have hbI := Lib.hid (hbd I fun i hi => H60.out i (by rw [← HIKe.out]; exact List.mem_append_left _ hi))
          have hbK := Lib.hid (hbd K fun i hi => H60.out i (by rw [← HIKe.out]; exact List.mem_append_right _ hi))
          have hIl : Hid ((I.map Int.ofNat).length = M1) := by show _ = _; rw [List.length_map, HI.out]
          have hKl : Hid ((K.map Int.ofNat).length = M2) := by show _ = _; rw [List.length_map, HK.out]
          have hgX := HKp.out.i.get
          have hgY := HKp.out.k.get
          rw [HX.out] at hgX
          rw [HY.out] at hgY
          have HgX := Lib.hid hgX
          have HgY := Lib.hid hgY
          clear hbd hgX hgY hr3
          go_wp2_with fail
          refine (get_c w.heap.size bs s _ (I.map Int.ofNat) M1 c4 (N1 : Int) w9 hT.sto hIl.out (by omega) hrI hbI.out (by omega) (by omega)).mono ?_
          rw [HgX.out.1, HgX.out.2, HX.out]
          rintro e w10 ⟨A10, c10, rfl, hr10, hb10⟩
          have hT10 := hT.young hb10
          have hrK := Rd.of_own_js (Own.below ho58 hb10)
          go_wp2_with fail
          refine (get_c w.heap.size bs s _ (K.map Int.ofNat) M2 c5 (N2 : Int) w10 hT10.sto hKl.out (by omega) hrK hbK.out (by omega) (by omega)).mono ?_
          rw [HgY.out.1, HgY.out.2, HY.out]
          rintro e w11 ⟨A11, c11, rfl, hr11, hb11⟩
          have hT11 := hT10.young hb11
          have hr10' := hr10.below hb11
          have hv1 := run_str w11 A10 X N1 c10 HX.out hr10'
          have hv2 := run_str w11 A1 X N1 c1 HX.out (hP1.below hT11.below)
          have hv3 := run_str w11 A11 Y N2 c11 HY.out hr11
          have hv4 := run_str w11 A2 Y N2 c2 HY.out (hP2.below hT11.below)
          have hcm1 := St8_cmp X X
          have hcm2 := St8_cmp Y Y
          rw [decide_eq_true rfl] at hcm1 hcm2
          clear hP1 hP2 hT hT10 hr10 hr10' hr11
          go_wp2_with fail
          go_ret
          exact ⟨rfl, hT11.below⟩
end Go.Proofs.Ytnlaeiadakdbkaa
