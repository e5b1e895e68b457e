/- The walks of ColumnPuts, ColumnKinds, ColumnBest. -/
import Derived.Test.YtmlnjfdanlnccaaMColU
import Derived.Test.YtmlnjfdanlnccaaMStr
import Derived.Test.YtmlnjfdanlnccaaMJoA
namespace Go.Proofs.Ytmlnjfdanlnccaa
open Go.RowKit

attribute [local go_sem ↓] Go.wp_at_zero Go.wp_at_succ

theorem rd_take {l : RowM} {A : Option Addr} {w : World} (hr : Rd w A (rcells l)) (k : Nat) : Rd w A (rcells (l.take k)) := by
  have h : rcells l = rcells (l.take k) ++ rcells (l.drop k) := by
    unfold rcells
    rw [← List.flatMap_append, List.take_append_drop]
  rw [h] at hr
  intro hne
  obtain ⟨b, o, e, hr'⟩ := hr (fun e => hne (List.append_eq_nil_iff.1 e).1)
  exact ⟨b, o, e, fun j v hj => hr' j v (by rw [List.getElem?_append_left (List.getElem?_eq_some_iff.1 hj).1]; exact hj)⟩

set_option maxHeartbeats 8000000 in
set_option maxRecDepth 100000 in
theorem few_any (l : RowM) (n c : Nat) (A : Option Addr) (w : World) (hl : l.length = n) (hr : Rd w A (rcells l)) (hok : ∀ v ∈ l, v.ok) (hnc : n ≤ c) (hc : c ≤ 9223372036854775807) :
    Calls Try.prog 10 #[.slice A n c] w fun e w' => (∃ K, e = .returned (.slice A K c) ∧ K ≤ n ∧ K ≤ 300) ∧ w = w' := by
  have Hl := Lib.hid hl
  have Hr := Lib.hid hr
  have Hok := Lib.hid hok
  clear hl hr hok
  go_enter Try.func10, Try.ntmps10
  go_wp2_with fail
  go_loop [3, 7] (fun v3 v7 => ∃ (j L : Nat), v3 = .int .i64 (L : Int) ∧ v7 = .int .i64 (j : Int) ∧ j ≤ n ∧ L ≤ 20000 ∧ j ≤ 300) (fun _ v7 => n - (intOf v7).toNat)
  case atStart => exact ⟨0, 20000, rfl, rfl, by omega, by omega, by omega⟩
  case round =>
    obtain ⟨j, L, rfl, rfl, hj, hL, hj3⟩ := hrel
    by_cases hjn : j < n
    · have hjl : j < l.length := by rw [Hl.out]; exact hjn
      have hjI : (j : Int) < (n : Int) := by omega
      have hj0 : (0 : Int) ≤ (j : Int) := by omega
      obtain ⟨b, o, rfl, c0, c1, c2⟩ := row_cells Hr.out hjl
      have hjc : (j : Int) ≤ (c : Int) := by omega
      have hjcN : j ≤ c := by omega
      have hvs := (Hok.out _ (List.getElem_mem hjl)).s
      generalize l[j] = v at *
      obtain ⟨vk, vn, x⟩ := v
      dsimp only at c0 c1 c2 hvs
      have hsz := St8_size x
      obtain ⟨X, hX⟩ : ∃ X, x.length = X := ⟨_, rfl⟩
      rw [hX] at hsz hvs
      clear hX hjl
      by_cases h3 : 300 ≤ j
      · have h3I : (300 : Int) ≤ (j : Int) := by omega
        have hd : decide ((300 : Int) ≤ (j : Int)) = true := decide_eq_true h3I
        have hd2 : decide (300 ≤ j) = true := decide_eq_true h3
        go_wp2_with fail
        go_ret
        exact ⟨⟨j, rfl, by omega, by omega⟩, rfl⟩
      · have h3I : ¬ (300 : Int) ≤ (j : Int) := by omega
        have hd : decide ((300 : Int) ≤ (j : Int)) = false := decide_eq_false h3I
        have hd2 : decide (300 ≤ j) = false := decide_eq_false h3
        by_cases h11 : 1100 < X
        · have e1 : decide ((1100 : Int) < (X : Int)) = true := decide_eq_true (by omega)
          have e2 : decide (1100 < X) = true := decide_eq_true h11
          go_wp2_with fail
          go_ret
          exact ⟨⟨j, rfl, by omega, by omega⟩, rfl⟩
        · have e1 : decide ((1100 : Int) < (X : Int)) = false := decide_eq_false (by omega)
          have e2 : decide (1100 < X) = false := decide_eq_false h11
          by_cases hLX : L < X
          · have e3 : decide ((L : Int) < (X : Int)) = true := decide_eq_true (by omega)
            have e4 : decide (L < X) = true := decide_eq_true hLX
            go_wp2_with fail
            go_ret
            exact ⟨⟨j, rfl, by omega, by omega⟩, rfl⟩
          · have e3 : decide ((L : Int) < (X : Int)) = false := decide_eq_false (by omega)
            have e4 : decide (L < X) = false := decide_eq_false hLX
            go_wp2_with fail
            go_round
            case rel => exact ⟨j + 1, L - X, congrArg _ (by omega), by go_num, by omega, by omega, by omega⟩
            case measure => simp [intOf]; omega
    · obtain rfl : j = n := by omega
      go_wp2_with fail
      go_ret
      exact ⟨⟨j, rfl, by omega, by omega⟩, rfl⟩

set_option maxRecDepth 100000 in
theorem num12_any (x : Int) (w : World) : Calls Try.prog 24 #[.int .i64 x] w fun e w' => e = .returned (.agg #[.int .u8 2, .int .i64 x, .string ⟨#[]⟩]) ∧ Below w.heap.size w w' := by
  have hb3 : Hid (Below w.heap.size w (w.alloc (.cells #[.int .u8 2, .int .i64 x, .string ⟨#[]⟩] 30))) := (Below.refl _ _).alloc (Nat.le_refl _) _
  have hk3 : Hid (Blk (w.alloc (.cells #[.int .u8 2, .int .i64 x, .string ⟨#[]⟩] 30)) w.heap.size 30 [.int .u8 2, .int .i64 x, .string ⟨#[]⟩]) := Blk.new w 30 #[.int .u8 2, .int .i64 x, .string ⟨#[]⟩]
  go_enter Try.func24, Try.ntmps24
  go_wp2_with fail
  (try simp only [Exit.inBlock, Exit.then]); refine bodyPost_ret (results_cell_row rfl _ _ w.heap.size 30 #[.int .u8 2, .int .i64 x, .string ⟨#[]⟩] (0, 0) _ rfl hk3.out Try.underlying30 rfl (by kernel_rfl)) rfl ?_
  exact ⟨rfl, hb3.out⟩

theorem ex_runs : cputM 2 2 [⟨2, 5, []⟩, ⟨0, 0, []⟩, ⟨2, 5, []⟩] = ([2, 7, 3, 2, 1, 0, 1, 2, 1, 1, 10, 2], 2, 0) := by decide +kernel
theorem ex_dict : (cputM 2 3 [⟨2, 5, []⟩, ⟨0, 0, []⟩, ⟨2, 5, []⟩]).2 = (1, 0) := by decide +kernel

set_option maxHeartbeats 8000000 in
set_option maxRecDepth 100000 in
theorem shown_any (w : World) : Calls Try.prog 9 #[] w fun e w' => e = .returned (.bool true) ∧ Below w.heap.size w w' := by
  have hok : ∀ v ∈ ([⟨2, 5, []⟩, ⟨0, 0, []⟩, ⟨2, 5, []⟩] : RowM), v.ok := by
    intro v hv
    rcases List.mem_cons.1 hv with rfl | hv
    · exact ⟨by decide, by decide, by decide⟩
    rcases List.mem_cons.1 hv with rfl | hv
    · exact ⟨by decide, by decide, by decide⟩
    rcases List.mem_cons.1 hv with rfl | hv
    · exact ⟨by decide, by decide, by decide⟩
    · simp at hv
  have Hok := Lib.hid hok
  clear hok
  go_enter Try.func9, Try.ntmps9
  go_wp2_with fail
  refine (num12_any 5 w).mono ?_
  rintro e w1 ⟨rfl, hb1⟩
  have Hb1 := Lib.hid hb1
  clear hb1
  go_wp2_with fail
  refine (num12_any 5 w1).mono ?_
  rintro e w2 ⟨rfl, hb2⟩
  have Hb2 := Lib.hid (Hb1.out.trans (hb2.mono Hb1.out.size))
  clear hb2
  go_wp2_with fail
  have hbA : Below w2.heap.size w2 (w2.alloc (.cells #[.int .u8 2, .int .i64 5, .string ⟨#[]⟩, .int .u8 0, .int .i64 0, .string ⟨#[]⟩, .int .u8 2, .int .i64 5, .string ⟨#[]⟩] 30)) := (Below.refl _ _).alloc (Nat.le_refl _) _
  have Hr3 : Hid (Rd (w2.alloc (.cells #[.int .u8 2, .int .i64 5, .string ⟨#[]⟩, .int .u8 0, .int .i64 0, .string ⟨#[]⟩, .int .u8 2, .int .i64 5, .string ⟨#[]⟩] 30)) (some ⟨w2.heap.size, 0, none⟩) (rcells [⟨2, 5, []⟩, ⟨0, 0, []⟩, ⟨2, 5, []⟩])) := Rd.new w2 [.int .u8 2, .int .i64 5, .string ⟨#[]⟩, .int .u8 0, .int .i64 0, .string ⟨#[]⟩, .int .u8 2, .int .i64 5, .string ⟨#[]⟩] 30
  have Hb3 := Lib.hid (Hb2.out.trans (hbA.mono Hb2.out.size))
  clear hbA
  refine (cputc_any 2 2 [⟨2, 5, []⟩, ⟨0, 0, []⟩, ⟨2, 5, []⟩] 3 3 (some ⟨w2.heap.size, 0, none⟩) _ rfl Hr3.out (by omega) Hok.out (by omega) (by omega)).mono ?_
  intro e w4 h4
  unfold CPutOK at h4
  rw [ex_runs] at h4
  obtain ⟨⟨A4, c4, rfl, ho4⟩, hb4⟩ := h4
  dsimp only [List.length_cons, List.length_nil] at ho4 ⊢
  have Hb4 := Lib.hid (Hb3.out.trans (hb4.mono Hb3.out.size))
  have Hr4 := Lib.hid (Hr3.out.below hb4)
  have Ho4 := Lib.hid ho4.rd
  clear hb4 ho4
  go_wp2_with fail
  refine (cputc_any 2 3 [⟨2, 5, []⟩, ⟨0, 0, []⟩, ⟨2, 5, []⟩] 3 3 (some ⟨w2.heap.size, 0, none⟩) w4 rfl Hr4.out (by omega) Hok.out (by omega) (by omega)).mono ?_
  intro e w5 h5
  unfold CPutOK at h5
  rw [ex_dict] at h5
  obtain ⟨⟨A5, c5, rfl, _⟩, hb5⟩ := h5
  have Hb5 := Lib.hid (Hb4.out.trans (hb5.mono Hb4.out.size))
  have Ho5 := Lib.hid (Ho4.out.below hb5)
  clear hb5
  generalize (cputM 2 3 [⟨2, 5, []⟩, ⟨0, 0, []⟩, ⟨2, 5, []⟩]).1.length = L5 at *
  have hcv := run_str w5 A4 [2, 7, 3, 2, 1, 0, 1, 2, 1, 1, 10, 2] 12 c4 rfl Ho5.out
  have hcq : ((St8 [2, 7, 3, 2, 1, 0, 1, 2, 1, 1, 10, 2]).toList == [2, 7, 3, 2, 1, 0, 1, 2, 1, 1, 10, 2]) = true := by
    rw [St8_list]
    exact beq_self_eq_true _
  go_wp2_with fail
  go_ret
  exact ⟨rfl, Hb5.out⟩

set_option maxHeartbeats 16000000 in
set_option maxRecDepth 100000 in
theorem columnputs_walk (kind how : Int) (l : RowM) (n c : Nat) (A : Option Addr) (w : World) (hl : l.length = n) (hr : Rd w A (rcells l)) (hok : ∀ v ∈ l, v.ok) (hnc : n ≤ c) (hc : c ≤ 9223372036854775807) (hkb : 0 ≤ kind ∧ kind ≤ 255) (hhb : 0 ≤ how ∧ how ≤ 255) :
    Calls Try.prog 4 #[.int .u8 kind, .slice A n c, .int .u8 how] w fun e w' => e = .returned (.bool true) ∧ Below w.heap.size w w' := by
  have hfw := Lib.hid (fun w' (hb : Below w.heap.size w w') => few_any l n c A w' hl (hr.below hb) hok hnc hc)
  have Hl := Lib.hid hl
  have Hr := Lib.hid hr
  have Hok := Lib.hid hok
  clear hl hr hok hnc hc
  go_enter Try.func4, Try.ntmps4
  go_wp2_with fail
  refine (hfw.out w (Below.refl _ _)).mono ?_
  rintro e u1 ⟨⟨K, rfl, hKn, hK3⟩, rfl⟩
  have HX0 := Lib.hid (rd_take Hr.out K)
  have HXok : Hid (∀ v ∈ l.take K, v.ok) := fun v hv => Hok.out v (List.mem_of_mem_take hv)
  have HK : Hid ((l.take K).length = K) := by show _ = _; rw [List.length_take, Hl.out]; omega
  generalize l.take K = X at *
  obtain ⟨B, hB⟩ : ∃ B, (cputM kind how X).1 = B := ⟨_, rfl⟩
  obtain ⟨U, hU⟩ : ∃ U, (cputM kind how X).2.1 = U := ⟨_, rfl⟩
  obtain ⟨E, hE⟩ : ∃ E, (cputM kind how X).2.2 = E := ⟨_, rfl⟩
  obtain ⟨L, hL⟩ : ∃ L, B.length = L := ⟨_, rfl⟩
  obtain ⟨M, hM⟩ : ∃ M, (bestM kind X).1 = M := ⟨_, rfl⟩
  obtain ⟨G, hG⟩ : ∃ G, (bestM kind X).2 = G := ⟨_, rfl⟩
  have HL := Lib.hid hL
  have h1 := Lib.hid ((cputc_any kind how X K c A w HK.out HX0.out (by omega) HXok.out hkb hhb).mono fun _ _ h => CPutOK.uni h hB hU hE hL)
  have h2 := Lib.hid (fun w' (hb : Below w.heap.size w w') => (rputc_any kind how X K c A w' HK.out (HX0.out.below hb) (by omega) HXok.out hkb hhb).mono fun _ _ h => CPutOK.uni h hB hU hE hL)
  have h3 := Lib.hid (fun w' (hb : Below w.heap.size w w') => best_any kind X K c A w' HK.out (HX0.out.below hb) (by omega) HXok.out hkb)
  have h4 := Lib.hid (fun w' (hb : Below w.heap.size w w') => rbest_any kind X K c A w' HK.out (HX0.out.below hb) (by omega) HXok.out hkb)
  rw [hM, hG] at h3 h4
  have gU : (U == U) = true := by simp
  have gE : (E == E) = true := by simp
  have gM : (M == M) = true := by simp
  have gG : (G == G) = true := by simp
  have gS : ((St8 B).toList == (St8 B).toList) = true := by simp
  clear hB hU hE hL hM hG
  go_wp2_with fail
  refine h1.out.mono ?_
  rintro e w1 ⟨⟨A1, c1, rfl, ho1⟩, hb1⟩
  have Hb := Lib.hid hb1
  have H1 := Lib.hid ho1.rd
  clear ho1 hb1
  go_wp2_with fail
  refine (h2.out w1 Hb.out).mono ?_
  rintro e w2 ⟨⟨A2, c2, rfl, ho2⟩, hb2⟩
  replace Hb := Lib.hid (Hb.out.trans (hb2.mono Hb.out.size))
  replace H1 := Lib.hid (H1.out.below hb2)
  have H2 := Lib.hid ho2.rd
  clear ho2 hb2
  go_wp2_with fail
  refine (h3.out w2 Hb.out).mono ?_
  rintro e w3 ⟨rfl, hb3⟩
  replace Hb := Lib.hid (Hb.out.trans (hb3.mono Hb.out.size))
  replace H1 := Lib.hid (H1.out.below hb3)
  replace H2 := Lib.hid (H2.out.below hb3)
  clear hb3
  go_wp2_with fail
  refine (h4.out w3 Hb.out).mono ?_
  rintro e w4 ⟨rfl, hb4⟩
  replace Hb := Lib.hid (Hb.out.trans (hb4.mono Hb.out.size))
  replace H1 := Lib.hid (H1.out.below hb4)
  replace H2 := Lib.hid (H2.out.below hb4)
  clear hb4
  go_wp2_with fail
  refine (shown_any w4).mono ?_
  rintro e w5 ⟨rfl, hb5⟩
  replace Hb := Lib.hid (Hb.out.trans (hb5.mono Hb.out.size))
  replace H1 := Lib.hid (H1.out.below hb5)
  replace H2 := Lib.hid (H2.out.below hb5)
  clear hb5
  have v1 := run_str w5 A1 B L c1 HL.out H1.out
  have v2 := run_str w5 A2 B L c2 HL.out H2.out
  go_wp2_with fail
  go_ret
  exact ⟨rfl, Hb.out⟩

set_option maxHeartbeats 16000000 in
set_option maxRecDepth 100000 in
theorem columnkinds_walk (kind how : Int) (l : RowM) (n c : Nat) (A : Option Addr) (w : World) (hl : l.length = n) (hr : Rd w A (rcells l)) (hok : ∀ v ∈ l, v.ok) (hnc : n ≤ c) (hc : c ≤ 9223372036854775807) (hkb : 0 ≤ kind ∧ kind ≤ 255) (hhb : 0 ≤ how ∧ how ≤ 255) :
    Calls Try.prog 3 #[.int .u8 kind, .slice A n c, .int .u8 how] w fun e w' => e = .returned (.bool true) ∧ Below w.heap.size w w' := by
  have hfw := Lib.hid (fun w' (hb : Below w.heap.size w w') => few_any l n c A w' hl (hr.below hb) hok hnc hc)
  have Hl := Lib.hid hl
  have Hr := Lib.hid hr
  have Hok := Lib.hid hok
  clear hl hr hok hnc hc
  go_enter Try.func3, Try.ntmps3
  go_wp2_with fail
  refine (shown_any w).mono ?_
  rintro e w0 ⟨rfl, hb0⟩
  have Hb := Lib.hid hb0
  clear hb0
  go_wp2_with fail
  refine (hfw.out w0 Hb.out).mono ?_
  rintro e u1 ⟨⟨K, rfl, hKn, hK3⟩, rfl⟩
  have HX0 := Lib.hid (rd_take Hr.out K)
  have HXok : Hid (∀ v ∈ l.take K, v.ok) := fun v hv => Hok.out v (List.mem_of_mem_take hv)
  have HK : Hid ((l.take K).length = K) := by show _ = _; rw [List.length_take, Hl.out]; omega
  generalize l.take K = X at *
  obtain ⟨B, hB⟩ : ∃ B, (cputM kind how X).1 = B := ⟨_, rfl⟩
  obtain ⟨U, hU⟩ : ∃ U, (cputM kind how X).2.1 = U := ⟨_, rfl⟩
  obtain ⟨E, hE⟩ : ∃ E, (cputM kind how X).2.2 = E := ⟨_, rfl⟩
  obtain ⟨L, hL⟩ : ∃ L, B.length = L := ⟨_, rfl⟩
  have HU := Lib.hid hU
  have HE := Lib.hid hE
  have h1 := Lib.hid ((cputc_any kind how X K c A w0 HK.out (HX0.out.below Hb.out) (by omega) HXok.out hkb hhb).mono fun _ _ h => CPutOK.uni h hB hU hE hL)
  clear hB hU hE hL
  go_wp2_with fail
  refine h1.out.mono ?_
  rintro e w1 ⟨⟨A1, c1, rfl, _⟩, hb1⟩
  replace Hb := Lib.hid (Hb.out.trans (hb1.mono Hb.out.size))
  clear hb1
  by_cases hbad : (kindOk kind && howOk how) = false
  · have hEU : E = 1 ∧ U = 0 := by
      rw [← HE.out, ← HU.out]
      unfold cputM
      rw [if_pos hbad]
      exact ⟨rfl, rfl⟩
    obtain ⟨rfl, rfl⟩ := hEU
    by_cases k1 : kind < 1
    · go_wp2_with fail
      go_ret
      exact ⟨rfl, Hb.out⟩
    · by_cases k3 : 3 < kind
      · go_wp2_with fail
        go_ret
        exact ⟨rfl, Hb.out⟩
      · by_cases h1' : how < 1
        · go_wp2_with fail
          go_ret
          exact ⟨rfl, Hb.out⟩
        · have h5' : 5 < how := by
            have hk : kindOk kind = true := by unfold kindOk; exact decide_eq_true (by omega)
            rw [hk, Bool.true_and] at hbad
            have := of_decide_eq_false hbad
            omega
          go_wp2_with fail
          go_ret
          exact ⟨rfl, Hb.out⟩
  · have hgood : kindOk kind = true ∧ howOk how = true := by
      rw [Bool.not_eq_false, Bool.and_eq_true] at hbad
      exact hbad
    have hkr := of_decide_eq_true hgood.1
    have hhr := of_decide_eq_true hgood.2
    have k1 : ¬ kind < 1 := by omega
    have k3 : ¬ 3 < kind := by omega
    have q1 : ¬ how < 1 := by omega
    have q5 : ¬ 5 < how := by omega
    have hEt : Hid (X.all (fitV kind) = true → E = 0) := fun h => by
      rw [← HE.out]
      unfold cputM
      rw [if_neg hbad, if_pos h]
    have hEf : Hid (X.all (fitV kind) = false → E = 7 ∧ U = 0) := fun h => by
      rw [← HE.out, ← HU.out]
      unfold cputM
      rw [if_neg hbad, h]
      exact ⟨rfl, rfl⟩
    clear hbad hgood hkr hhr h1
    go_wp2_with fail
    go_loopw [12, 51] (fun vo vi wr => ∃ (i : Nat) (ok : Bool), vo = .bool ok ∧ vi = .int .i64 (i : Int) ∧ i ≤ K ∧ Hid ((X.take i).all (fitV kind) = ok) ∧ Hid (Below w.heap.size w wr)) (fun _ vi _ => K - (intOf vi).toNat)
    case atStart => exact ⟨0, true, rfl, rfl, by omega, rfl, Hb⟩
    case round =>
      obtain ⟨i, ok, rfl, rfl, hi, Hall, Hbr⟩ := hrel
      by_cases hin : i < K
      · have hil : i < X.length := by rw [HK.out]; exact hin
        have hiI : (i : Int) < (K : Int) := by omega
        have hi0 : (0 : Int) ≤ (i : Int) := by omega
        obtain ⟨b, o, rfl, c0, c1, c2⟩ := row_cells (HX0.out.below Hbr.out) hil
        have Htk : Hid ((X.take (i + 1)).all (fitV kind) = (ok && fitV kind X[i])) := by
          show _ = _
          rw [List.take_succ_eq_append_getElem hil, List.all_append, Hall.out]
          simp
        generalize X[i] = v at *
        have hbx := Blk.new wr 30 #[.int .u8 v.k, .int .i64 v.n, .string (St8 v.s)]
        have hbA : Below wr.heap.size wr (wr.alloc (.cells #[.int .u8 v.k, .int .i64 v.n, .string (St8 v.s)] 30)) := (Below.refl _ _).alloc (Nat.le_refl _) _
        have Hb1 := Lib.hid (Hbr.out.trans (hbA.mono Hbr.out.size))
        have k0 := hbx.cell 0
        have kk1 := hbx.cell 1
        have k2 := hbx.cell 2
        simp only [List.getElem?_cons_zero, List.getElem?_cons_succ] at k0 kk1 k2
        have Hbx := Lib.hid hbx
        clear hbA hbx hil Hall
        cases ok
        · have Ht : Hid ((X.take (i + 1)).all (fitV kind) = false) := Htk.out
          clear Htk
          go_wp2_with fail
          go_roundw
          case rel => exact ⟨i + 1, false, rfl, by go_num, by omega, Ht, Hb1⟩
          case measure => simp only [intOf, Int.toNat_natCast]; omega
        · rw [Bool.true_and] at Htk
          have hrg := Lib.hid (right_any v (wr.alloc (.cells #[.int .u8 v.k, .int .i64 v.n, .string (St8 v.s)] 30)))
          obtain ⟨vk, vn, vs⟩ := v
          dsimp only at c0 c1 c2 k0 kk1 k2 Hb1 Hbx hrg
          unfold Va.agg at hrg
          dsimp only at hrg
          rw [show fitV kind ⟨vk, vn, vs⟩ = (rightV ⟨vk, vn, vs⟩ && (decide (vk = 0) || decide (vk = kind))) from rfl] at Htk
          cases hrv : rightV ⟨vk, vn, vs⟩
          · rw [hrv] at hrg Htk
            rw [Bool.false_and] at Htk
            clear hrv
            go_wp2_with fail
            refine hrg.out.mono ?_
            rintro e w2 ⟨rfl, hb2⟩
            have Hb2 := Lib.hid (Hb1.out.trans (hb2.mono Hb1.out.size))
            clear hb2 hrg
            go_wp2_with fail
            go_roundw
            case rel => exact ⟨i + 1, false, rfl, by go_num, by omega, Htk, Hb2⟩
            case measure => simp only [intOf, Int.toNat_natCast]; omega
          · rw [hrv] at hrg Htk
            rw [Bool.true_and] at Htk
            clear hrv
            by_cases hk0 : vk = 0
            · subst hk0
              have Ht : Hid ((X.take (i + 1)).all (fitV kind) = true) := by show _ = _; rw [Htk.out]; simp
              clear Htk
              go_wp2_with fail
              refine hrg.out.mono ?_
              rintro e w2 ⟨rfl, hb2⟩
              have Hb2 := Lib.hid (Hb1.out.trans (hb2.mono Hb1.out.size))
              have d0 := (Hbx.out.below hb2).cell 0
              simp only [List.getElem?_cons_zero] at d0
              clear hb2 hrg k0 kk1 k2
              go_wp2_with fail
              go_roundw
              case rel => exact ⟨i + 1, true, rfl, by go_num, by omega, Ht, Hb2⟩
              case measure => simp only [intOf, Int.toNat_natCast]; omega
            · have e0 : (vk == 0) = false := by rw [beq_eq_false_iff_ne]; exact hk0
              by_cases hkk : vk = kind
              · subst hkk
                have Ht : Hid ((X.take (i + 1)).all (fitV vk) = true) := by show _ = _; rw [Htk.out]; simp
                clear Htk hk0
                go_wp2_with fail
                refine hrg.out.mono ?_
                rintro e w2 ⟨rfl, hb2⟩
                have Hb2 := Lib.hid (Hb1.out.trans (hb2.mono Hb1.out.size))
                have d0 := (Hbx.out.below hb2).cell 0
                simp only [List.getElem?_cons_zero] at d0
                clear hb2 hrg k0 kk1 k2
                go_wp2_with fail
                go_roundw
                case rel => exact ⟨i + 1, true, rfl, by go_num, by omega, Ht, Hb2⟩
                case measure => simp only [intOf, Int.toNat_natCast]; omega
              · have ek : (vk == kind) = false := by rw [beq_eq_false_iff_ne]; exact hkk
                have Ht : Hid ((X.take (i + 1)).all (fitV kind) = false) := by show _ = _; rw [Htk.out]; simp [hk0, hkk]
                clear Htk hk0 hkk
                go_wp2_with fail
                refine hrg.out.mono ?_
                rintro e w2 ⟨rfl, hb2⟩
                have Hb2 := Lib.hid (Hb1.out.trans (hb2.mono Hb1.out.size))
                have d0 := (Hbx.out.below hb2).cell 0
                simp only [List.getElem?_cons_zero] at d0
                clear hb2 hrg k0 kk1 k2
                go_wp2_with fail
                go_roundw
                case rel => exact ⟨i + 1, false, rfl, by go_num, by omega, Ht, Hb2⟩
                case measure => simp only [intOf, Int.toNat_natCast]; omega
      · obtain rfl : i = K := by omega
        have hta : X.take i = X := List.take_of_length_le (by rw [HK.out]; exact Nat.le_refl _)
        rw [hta] at Hall
        clear hta
        cases ok
        · obtain ⟨rfl, rfl⟩ := hEf.out Hall.out
          go_wp2_with fail
          go_ret
          exact ⟨rfl, Hbr.out⟩
        · obtain rfl := hEt.out Hall.out
          go_wp2_with fail
          go_ret
          exact ⟨rfl, Hbr.out⟩

theorem lay_one (kind : Int) (N : List Int) (X : List (List UInt8)) : layP kind 1 N X = (flatN N ++ flatX X, 1) := by
  unfold layP
  split
  · rfl
  · rfl
theorem lay_or (kind how : Int) (N : List Int) (X : List (List UInt8)) : (layP kind how N X).2 = how ∨ layP kind how N X = layP kind 1 N X := by
  rw [lay_one]
  unfold layP
  split
  · exact .inr rfl
  · split
    · rename_i h; exact .inl h.symm
    · split
      · rename_i h; exact .inl h.symm
      · split
        · rename_i h
          cases wordsB X with
          | none => exact .inr rfl
          | some b => exact .inl h.symm
        · split
          · rename_i h
            cases deltaB N with
            | none => exact .inr rfl
            | some b => exact .inl h.symm
          · exact .inr rfl
/-- What Put tells, if values may be. -/
def lenQ (kind : Int) (l : RowM) (h : Int) : Nat := (cputM kind h l).1.length
def usedQ (kind : Int) (l : RowM) (h : Int) : Int := (cputM kind h l).2.1
theorem good_cput {kind : Int} {l : RowM} (hg : (cputM kind 1 l).2.2 = 0) {h : Int} (hh : 1 ≤ h ∧ h ≤ 5) : cputM kind h l = ((colB kind h l).1, (colB kind h l).2, 0) ∧ kindOk kind = true ∧ l.all (fitV kind) = true := by
  have e := cput_err kind l hh
  rw [hg] at e
  unfold cputM at e ⊢
  split at e
  · cases e
  · rename_i h1
    rw [if_neg h1]
    split at e
    · rename_i h2
      rw [if_pos h2]
      rw [Bool.not_eq_false, Bool.and_eq_true] at h1
      exact ⟨rfl, h1.1, h2⟩
    · cases e
theorem used_one {kind : Int} {l : RowM} (hg : (cputM kind 1 l).2.2 = 0) : usedQ kind l 1 = 1 := by
  unfold usedQ
  rw [(good_cput hg (h := 1) (by omega)).1]
  unfold colB
  rw [lay_parts, lay_one]
theorem used_or {kind : Int} {l : RowM} (hg : (cputM kind 1 l).2.2 = 0) {h : Int} (hh : 1 ≤ h ∧ h ≤ 5) : usedQ kind l h = h ∨ cputM kind h l = cputM kind 1 l := by
  rcases lay_or kind h (numsK kind l) (textsK kind l) with h1 | h1
  · refine .inl ?_
    unfold usedQ
    rw [(good_cput hg hh).1]
    unfold colB
    rw [lay_parts]
    exact h1
  · refine .inr ?_
    rw [(good_cput hg hh).1, (good_cput hg (h := 1) (by omega)).1]
    unfold colB
    rw [lay_parts, lay_parts, h1]
/-- What is known of the best encoding so far. -/
def BestI (kind : Int) (l : RowM) (p : Int) (b : Int) (n : Nat) : Prop :=
  (b = 0 ∧ ∀ h, 1 ≤ h → h ≤ p → usedQ kind l h ≠ h) ∨ (1 ≤ b ∧ b ≤ p ∧ usedQ kind l b = b ∧ lenQ kind l b = n ∧ ∀ h, 1 ≤ h → h ≤ p → usedQ kind l h = h → n ≤ lenQ kind l h ∧ (lenQ kind l h = n → b ≤ h))
theorem bestF_spec (kind : Int) (l : RowM) : ∀ (k : Nat) (b : Int) (n : Nat), k ≤ 5 → BestI kind l (5 - k) b n → BestI kind l 5 (bestF kind l k b n).1 (bestF kind l k b n).2
  | 0, b, n, _, h => by
    rw [bestF]
    exact h
  | k + 1, b, n, hk, h => by
    have hp : (5 : Int) - ((k + 1 : Nat) : Int) = (5 - (k : Int)) - 1 := by omega
    rw [hp] at h
    rw [best_next kind l k b n (5 - (k : Int)) rfl]
    obtain ⟨g, hg⟩ : ∃ g, (5 : Int) - (k : Int) = g := ⟨_, rfl⟩
    rw [hg] at h ⊢
    by_cases hc : (cputM kind g l).2.1 = g ∧ (b = 0 ∨ (cputM kind g l).1.length < n)
    · rw [if_pos hc]
      refine bestF_spec kind l k g _ (by omega) ?_
      rw [hg]
      refine .inr ⟨by omega, Int.le_refl _, hc.1, rfl, fun t h1 h2 h3 => ?_⟩
      by_cases ht : t = g
      · subst ht
        exact ⟨Nat.le_refl _, fun _ => Int.le_refl _⟩
      · have h4 : t ≤ g - 1 := by omega
        rcases h with ⟨_, h5⟩ | ⟨a1, a2, a3, a4, h5⟩
        · exact absurd h3 (h5 t h1 h4)
        · have := (h5 t h1 h4 h3).1
          rcases hc.2 with hb | hb
          · omega
          · exact ⟨by show (cputM kind g l).1.length ≤ _; omega, fun e => by
              have : lenQ kind l t = (cputM kind g l).1.length := e
              omega⟩
    · rw [if_neg hc]
      refine bestF_spec kind l k b n (by omega) ?_
      rw [hg]
      rcases h with ⟨rfl, h5⟩ | ⟨a1, a2, a3, a4, h5⟩
      · refine .inl ⟨rfl, fun t h1 h2 h3 => ?_⟩
        by_cases ht : t = g
        · subst ht
          exact hc ⟨h3, .inl rfl⟩
        · exact h5 t h1 (by omega) h3
      · refine .inr ⟨a1, by omega, a3, a4, fun t h1 h2 h3 => ?_⟩
        by_cases ht : t = g
        · subst ht
          refine ⟨?_, fun _ => by omega⟩
          have : ¬ (cputM kind t l).1.length < n := fun h => hc ⟨h3, .inr h⟩
          show n ≤ (cputM kind t l).1.length
          omega
        · exact h5 t h1 (by omega) h3
/-- The best encoding: none has fewer bytes, and of those with as many it is the first. -/
theorem best_law {kind : Int} {l : RowM} (hg : (cputM kind 1 l).2.2 = 0) :
    1 ≤ (bestM kind l).1 ∧ (bestM kind l).1 ≤ 5 ∧ (cputM kind (bestM kind l).1 l).2.1 = (bestM kind l).1 ∧ ∀ h : Int, 1 ≤ h → h ≤ 5 → ¬ (cputM kind h l).1.length < (cputM kind (bestM kind l).1 l).1.length ∧ ((cputM kind h l).2.1 = h → (cputM kind h l).1.length = (cputM kind (bestM kind l).1 l).1.length → ¬ h < (bestM kind l).1) := by
  have e : (bestM kind l).1 = (bestF kind l 5 0 0).1 := by unfold bestM; rw [if_pos hg]
  rw [e]
  have h := bestF_spec kind l 5 0 0 (by omega) (.inl ⟨rfl, fun h h1 h2 => by omega⟩)
  generalize (bestF kind l 5 0 0).1 = b at *
  generalize (bestF kind l 5 0 0).2 = n at *
  rcases h with ⟨_, h5⟩ | ⟨a1, a2, a3, a4, h5⟩
  · exact absurd (used_one hg) (h5 1 (by omega) (by omega))
  · refine ⟨a1, a2, a3, fun t h1 h2 => ?_⟩
    have a4' : (cputM kind b l).1.length = n := a4
    rw [a4']
    have h11 := h5 1 (by omega) (by omega) (used_one hg)
    rcases used_or hg (h := t) ⟨h1, h2⟩ with h3 | h3
    · have h6 := h5 t h1 h2 h3
      unfold lenQ at h6
      exact ⟨by omega, fun _ h8 h9 => by have := h6.2 h8; omega⟩
    · rw [h3]
      unfold lenQ at h11
      refine ⟨by omega, fun h7 h8 h9 => ?_⟩
      have h10 : (cputM kind 1 l).2.1 = 1 := used_one hg
      have := h11.2 h8
      omega

set_option maxHeartbeats 16000000 in
set_option maxRecDepth 100000 in
theorem columnbest_walk (kind : Int) (l : RowM) (n c : Nat) (A : Option Addr) (w : World) (hl : l.length = n) (hr : Rd w A (rcells l)) (hok : ∀ v ∈ l, v.ok) (hnc : n ≤ c) (hc : c ≤ 9223372036854775807) (hkb : 0 ≤ kind ∧ kind ≤ 255) :
    Calls Try.prog 5 #[.int .u8 kind, .slice A n c] w fun e w' => e = .returned (.bool true) ∧ Below w.heap.size w w' := by
  have hfw := Lib.hid (fun w' (hb : Below w.heap.size w w') => few_any l n c A w' hl (hr.below hb) hok hnc hc)
  have Hl := Lib.hid hl
  have Hr := Lib.hid hr
  have Hok := Lib.hid hok
  clear hl hr hok hnc hc
  go_enter Try.func5, Try.ntmps5
  go_wp2_with fail
  refine (shown_any w).mono ?_
  rintro e w0 ⟨rfl, hb0⟩
  have Hb := Lib.hid hb0
  clear hb0
  go_wp2_with fail
  refine (hfw.out w0 Hb.out).mono ?_
  rintro e u1 ⟨⟨K, rfl, hKn, hK3⟩, rfl⟩
  have HX0 := Lib.hid (rd_take Hr.out K)
  have HXok : Hid (∀ v ∈ l.take K, v.ok) := fun v hv => Hok.out v (List.mem_of_mem_take hv)
  have HK : Hid ((l.take K).length = K) := by show _ = _; rw [List.length_take, Hl.out]; omega
  generalize l.take K = X at *
  have hput := Lib.hid (fun (h : Int) (hh : 0 ≤ h ∧ h ≤ 255) w' (hb : Below w.heap.size w w') => cputc_any kind h X K c A w' HK.out (HX0.out.below hb) (by omega) HXok.out hkb hh)
  have hbs := Lib.hid (best_any kind X K c A w0 HK.out (HX0.out.below Hb.out) (by omega) HXok.out hkb)
  by_cases h0 : (cputM kind 1 X).2.2 = 0
  · have hb2 : (bestM kind X).2 = 0 := by unfold bestM; rw [if_pos h0]
    obtain ⟨m1, m5, mu, mall⟩ := best_law h0
    rw [hb2] at hbs
    obtain ⟨M, hM⟩ : ∃ M, (bestM kind X).1 = M := ⟨_, rfl⟩
    rw [hM] at hbs m1 m5 mu mall
    have hME := cput_err kind X (h := M) ⟨m1, m5⟩
    rw [h0] at hME
    obtain ⟨B, hB⟩ : ∃ B, (cputM kind M X).1 = B := ⟨_, rfl⟩
    obtain ⟨L, hL⟩ : ∃ L, B.length = L := ⟨_, rfl⟩
    rw [hB, hL] at mall
    have Hall := Lib.hid mall
    have H0 := Lib.hid h0
    have hp1 := Lib.hid (fun w' hb => (hput.out M (by omega) w' hb).mono fun _ _ h => CPutOK.uni h hB mu hME hL)
    clear hb2 hM mu mall hME hB hL h0
    go_wp2_with fail
    refine hbs.out.mono ?_
    rintro e w1 ⟨rfl, hb1⟩
    replace Hb := Lib.hid (Hb.out.trans (hb1.mono Hb.out.size))
    clear hb1 hbs
    go_wp2_with fail
    refine (hp1.out w1 Hb.out).mono ?_
    rintro e w2 ⟨⟨A2, c2, rfl, _⟩, hb2⟩
    replace Hb := Lib.hid (Hb.out.trans (hb2.mono Hb.out.size))
    clear hb2 hp1
    go_wp2_with fail
    go_loopw [15] (fun vh wr => ∃ h : Nat, vh = .int .u8 (h : Int) ∧ 1 ≤ h ∧ h ≤ 6 ∧ Hid (Below w.heap.size w wr)) (fun vh _ => 6 - (intOf vh).toNat)
    case atStart => exact ⟨1, rfl, by omega, by omega, Hb⟩
    case round =>
      obtain ⟨h, rfl, h1, h6, Hbr⟩ := hrel
      by_cases h5 : h ≤ 5
      · have hh5 : (h : Int) ≤ 5 := by omega
        have hE := cput_err kind X (h := (h : Int)) ⟨by omega, by omega⟩
        rw [H0.out] at hE
        obtain ⟨q1, q2⟩ := Hall.out (h : Int) (by omega) (by omega)
        obtain ⟨B', hB'⟩ : ∃ B', (cputM kind (h : Int) X).1 = B' := ⟨_, rfl⟩
        obtain ⟨u, hu⟩ : ∃ u, (cputM kind (h : Int) X).2.1 = u := ⟨_, rfl⟩
        obtain ⟨L', hL'⟩ : ∃ L', B'.length = L' := ⟨_, rfl⟩
        rw [hB', hL'] at q1 q2
        rw [hu] at q2
        have Hp := Lib.hid ((hput.out (h : Int) (by omega) wr Hbr.out).mono fun _ _ h => CPutOK.uni h hB' hu hE hL')
        have hw8 : IntKind.u8.wrap ((h : Int) + 1) = (h : Int) + 1 := by rw [IntKind.wrap_u8]; omega
        have q1I : ¬ (L' : Int) < (L : Int) := by omega
        have q1d : decide (L' < L) = false := decide_eq_false q1
        clear hE hB' hu hL'
        by_cases huh : u = (h : Int)
        · subst huh
          by_cases hLL : L' = L
          · have q3 : ¬ (h : Int) < M := by have := q2 rfl hLL; omega
            have q3d : decide ((h : Int) < M) = false := decide_eq_false q3
            subst hLL
            clear q1 q2 q1I q1d
            go_wp2_with fail
            refine Hp.out.mono ?_
            rintro e w3 ⟨⟨A3, c3, rfl, _⟩, hb3⟩
            have Hb3 := Lib.hid (Hbr.out.trans (hb3.mono Hbr.out.size))
            clear hb3 Hp
            go_wp2_with fail
            go_roundw
            case rel => exact ⟨h + 1, by go_num, by omega, by omega, Hb3⟩
            case measure => simp only [intOf]; omega
          · have q4 : ((L' : Int) == (L : Int)) = false := by rw [beq_eq_false_iff_ne]; omega
            have q4d : decide ((L' : Int) = (L : Int)) = false := decide_eq_false (by omega)
            clear q1 q2
            go_wp2_with fail
            refine Hp.out.mono ?_
            rintro e w3 ⟨⟨A3, c3, rfl, _⟩, hb3⟩
            have Hb3 := Lib.hid (Hbr.out.trans (hb3.mono Hbr.out.size))
            clear hb3 Hp
            go_wp2_with fail
            go_roundw
            case rel => exact ⟨h + 1, by go_num, by omega, by omega, Hb3⟩
            case measure => simp only [intOf]; omega
        · have euh : (u == (h : Int)) = false := by rw [beq_eq_false_iff_ne]; exact huh
          clear q1 q2 huh
          go_wp2_with fail
          refine Hp.out.mono ?_
          rintro e w3 ⟨⟨A3, c3, rfl, _⟩, hb3⟩
          have Hb3 := Lib.hid (Hbr.out.trans (hb3.mono Hbr.out.size))
          clear hb3 Hp
          go_wp2_with fail
          go_roundw
          case rel => exact ⟨h + 1, by go_num, by omega, by omega, Hb3⟩
          case measure => simp only [intOf]; omega
      · obtain rfl : h = 6 := by omega
        go_wp2_with fail
        go_ret
        exact ⟨rfl, Hbr.out⟩
  · have hbm : bestM kind X = (0, (cputM kind 1 X).2.2) := by unfold bestM; rw [if_neg h0]
    rw [hbm] at hbs
    have hp1 := Lib.hid (fun w' hb => (hput.out 1 (by omega) w' hb).mono fun _ _ h => CPutOK.uni h rfl rfl rfl rfl)
    generalize (cputM kind 1 X).2.2 = E at *
    generalize (cputM kind 1 X).2.1 = U at *
    have hne : (E != 0) = true := by rw [bne_iff_ne]; exact h0
    have gE : (E == E) = true := by simp
    clear h0 hbm
    go_wp2_with fail
    refine hbs.out.mono ?_
    rintro e w1 ⟨rfl, hb1⟩
    replace Hb := Lib.hid (Hb.out.trans (hb1.mono Hb.out.size))
    clear hb1 hbs
    go_wp2_with fail
    refine (hp1.out w1 Hb.out).mono ?_
    rintro e w2 ⟨⟨A2, c2, rfl, _⟩, hb2⟩
    replace Hb := Lib.hid (Hb.out.trans (hb2.mono Hb.out.size))
    clear hb2 hp1
    go_wp2_with fail
    go_ret
    exact ⟨rfl, Hb.out⟩
end Go.Proofs.Ytmlnjfdanlnccaa
