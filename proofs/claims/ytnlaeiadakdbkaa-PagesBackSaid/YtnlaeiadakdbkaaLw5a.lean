/- What the statements of layer 5 share: lists that are compared, and the document's examples. -/
import Derived.Test.YtnlaeiadakdbkaaPagC
namespace Go.Proofs.Ytnlaeiadakdbkaa
open Go.RowKit

attribute [local go_sem ↓] Go.wp_at_zero Go.wp_at_succ

theorem ints_ne (l m : List Int) (n k : Nat) (A A' : Option Addr) (c c' : Nat) (w : World) (hl : l.length = n) (hm : m.length = k) (h : n ≠ k) (hn : n ≤ 140737488355328) (hk : k ≤ 140737488355328) :
    Calls Try.prog 29 #[.slice A n c, .slice A' k c'] w fun e w' => e = .returned (.bool (decide (l = m))) ∧ ∃ j, w.drewN j = w' := by
  have hd := Lib.hid (decide_eq_false (p := l = m) (fun e => h (by rw [← hl, ← hm, e])))
  have hne : ((n : Int) != (k : Int)) = true := by rw [bne_iff_ne]; omega
  clear hl hm h
  go_enter Try.func29, Try.ntmps29
  go_wp2_with fail
  go_ret
  exact ⟨by rw [hd.out]; rfl, 0, rfl⟩

set_option maxRecDepth 100000 in
theorem ints_any (l m : List Int) (n k : Nat) (A A' : Option Addr) (c c' : Nat) (w : World) (hl : l.length = n) (hm : m.length = k) (hA : Rd w A (Js l)) (hA' : Rd w A' (Js m)) (hn : n ≤ 140737488355328) (hk : k ≤ 140737488355328) :
    Calls Try.prog 29 #[.slice A n c, .slice A' k c'] w fun e w' => e = .returned (.bool (decide (l = m))) ∧ ∃ j, w.drewN j = w' := by
  by_cases hnk : n = k
  · subst hnk
    have Hl := Lib.hid hl
    have Hm := Lib.hid hm
    clear hl hm
    have hne : ((n : Int) != (n : Int)) = false := by simp
    go_enter Try.func29, Try.ntmps29
    go_wp2_with fail
    go_loopw [5] (fun i wr => ∃ (j q : Nat), j ≤ n ∧ i = .int .i64 j ∧ wr = w.drewN q ∧ Hid (l.take j = m.take j)) (fun i _ => n - (intOf i).toNat)
    case atStart => exact ⟨0, 0, by omega, rfl, rfl, rfl⟩
    case round =>
      obtain ⟨j, q, hj, rfl, rfl, heq⟩ := hrel
      by_cases hlt : j < n
      · obtain ⟨b, o, rfl, hb, _, hca⟩ := hA.get (k := j) (by rw [List.length_map, Hl.out]; exact hlt)
        obtain ⟨b', o', rfl, hb', _, hca'⟩ := hA'.get (k := j) (by rw [List.length_map, Hm.out]; exact hlt)
        rw [List.getElem_map] at hca hca'
        have ht := Lib.hid (List.take_succ_eq_append_getElem (l := l) (i := j) (by rw [Hl.out]; exact hlt))
        have ht' := Lib.hid (List.take_succ_eq_append_getElem (l := m) (i := j) (by rw [Hm.out]; exact hlt))
        have hx : Hid (∀ h : l = m, l[j]'(by rw [Hl.out]; exact hlt) = m[j]'(by rw [Hm.out]; exact hlt)) := by
          intro h
          subst h
          rfl
        clear hA hA'
        generalize l[j]'(by rw [Hl.out]; exact hlt) = x at *
        generalize m[j]'(by rw [Hm.out]; exact hlt) = y at *
        have hjI : (0 : Int) ≤ (j : Int) := by omega
        have hjI' : (j : Int) < (n : Int) := by omega
        by_cases hxy : x = y
        · subst hxy
          go_wp2_with fail
          go_quiet (fail)
          go_wp2_with fail
          go_roundw
          case rel =>
            refine ⟨j + 1, _, by omega, by go_num, rfl, ?_⟩
            show _ = _
            rw [ht.out, ht'.out, heq.out]
          case measure => simp [intOf]; omega
        · have hd := Lib.hid (decide_eq_false (p := l = m) (fun e => hxy (hx.out e)))
          have hb : (x != y) = true := by rw [bne_iff_ne]; exact hxy
          clear hxy
          go_wp2_with fail
          go_quiet (fail)
          go_wp2_with fail
          go_ret
          exact ⟨by rw [hd.out]; rfl, _, (World.drewN_drewN ..).symm⟩
      · obtain rfl : j = n := by omega
        have hd : Hid (decide (l = m) = true) := decide_eq_true (by
          have := heq.out
          rwa [List.take_of_length_le (by rw [Hl.out]; exact Nat.le_refl _), List.take_of_length_le (by rw [Hm.out]; exact Nat.le_refl _)] at this)
        go_wp2_with fail
        go_ret
        exact ⟨by rw [hd.out]; rfl, _, rfl⟩
  · exact ints_ne l m n k A A' c c' w hl hm hnk hn hk

theorem Rd.of_own_js {w : World} {base : Nat} {A : Option Addr} {n c : Nat} {l : List Nat} (h : Own w base 3 1 A n c (Is l)) : Rd w A (Js (l.map Int.ofNat)) := by
  rw [Js_Is]
  exact h.rd

def sh0 : Pg.St := [none, none]
def sh1 : Pg.St := Pg.putS sh0 (List.replicate 57 0)
def sh2 : Pg.St := Pg.dropS sh1 [0, 1]
theorem sh0_l : Pg.putL sh0 (List.replicate 57 0) = [0, 1] := by kernel_rfl
theorem sh0_e : Pg.putE sh0 (List.replicate 57 0) = 0 := by kernel_rfl
theorem sh1_e : Pg.allocE sh1 1 = 4 := by kernel_rfl
theorem sh1_l : Pg.allocL sh1 1 = [] := by kernel_rfl
theorem sh1_s : Pg.allocS sh1 1 = sh1 := by kernel_rfl
theorem sh2_e : Pg.allocE sh2 1 = 0 := by kernel_rfl
theorem sh2_l : Pg.allocL sh2 1 = [0] := by kernel_rfl

set_option maxRecDepth 100000 in
theorem shown_any (w : World) : Calls Try.prog 8 #[] w fun e w' => e = .returned (.bool true) ∧ Below w.heap.size w w' := by
  have hps := Lib.hid (show Pg.putS sh0 (List.replicate 57 0) = sh1 from rfl)
  have hds := Lib.hid (show Pg.dropS sh1 [0, 1] = sh2 from rfl)
  have hz57 : Hid ((List.replicate 57 (0 : UInt8)).length = 57) := by show _ = _; simp
  have hB57 : Hid (Bs (List.replicate 57 0) = List.replicate 57 (Value.int .u8 0)) := by show _ = _; simp
  go_enter Try.func8, Try.ntmps8
  go_wp2_with fail
  refine (new_yes 2 w (by omega)).mono ?_
  rintro e w1 ⟨bs, rfl, hs1, hb1⟩
  have hs1 : Sto w1 w.heap.size bs sh0 := hs1
  have hz1 := hb1.size
  go_wp2_with (first | (at_builtin; refine hold ?_) | (at_make; refine hold ?_))
  (with_reducible refine unhold ?_)
  refine wpList_mkn rfl _ _ _ rfl E8 w.heap.size _ _ _ _ 57 rfl rfl rfl rfl (by omega) (by unfold maxLen; omega) hz1 ?_
  intro w2 ho2 hb2 hlt2
  rw [show (Value.cells (.int .u8 0)) = #[.int .u8 0] from rfl, toList_madeCells_one, ← hB57.out] at ho2
  have hs2 := hs1.below hb2
  have hb02 := hb1.trans (hb2.mono hz1)
  have hr2 : Rs StT w.heap.size w2 (some ⟨w1.heap.size, 0, none⟩) (Bs (List.replicate 57 0)) := Rs.of_own ho2 (by decide)
  have hz2 := hb02.size
  generalize hZ : List.replicate 57 (0 : UInt8) = Z at *
  have HZ := Lib.hid hZ
  clear hZ ho2
  go_wp2_with fail
  refine (put_c w.heap.size bs sh0 _ Z 57 57 w2 hs2 hz57.out (by omega) (by omega) (by omega) hr2 hz2).mono ?_
  rw [show Pg.putL sh0 Z = [0, 1] from by rw [← HZ.out]; exact sh0_l, show Pg.putE sh0 Z = 0 from by rw [← HZ.out]; exact sh0_e, hps.out]
  rintro e w3 ⟨A3, c3, rfl, ho3, hs3, hk3⟩
  have hz3 := hk3.size
  have hb03 := hb02.trans ((hk3.below hz2).mono (Nat.le_refl _))
  go_wp2_with fail
  refine (alloc_c w.heap.size bs sh1 1 w3 hs3 (by omega) (by omega) (by omega)).mono ?_
  rw [sh1_e, sh1_l, sh1_s]
  rintro e w4 ⟨A4, c4, rfl, ho4, hs4, hk4⟩
  have hz4 := hk4.size
  have hb04 := hb03.trans (hk4.below (by omega))
  have ho34 := Own.keeps ho3 (by decide) hk4
  go_wp2_with fail
  refine (drop_c w.heap.size bs sh1 A3 [0, 1] 2 c3 w4 hs4 rfl (by omega) (Rs.of_own (by exact ho34) (by decide)) (by simp) (by omega)).mono ?_
  rw [hds.out]
  rintro e w5 ⟨rfl, hs5, hk5⟩
  have hz5 := hk5.size
  have hb05 := hb04.trans (hk5.below (by omega))
  have ho35 := Own.keeps ho34 (by decide) hk5
  go_wp2_with fail
  refine (alloc_c w.heap.size bs sh2 1 w5 hs5 (by omega) (by omega) (by omega)).mono ?_
  rw [sh2_e, sh2_l]
  rintro e w6 ⟨A6, c6, rfl, ho6, hs6, hk6⟩
  have hb06 := hb05.trans (hk6.below (by omega))
  have ho36 := Own.keeps ho35 (by decide) hk6
  have hz6 := hb06.size
  go_wp2_with fail
  have hR := (Own.keeps ho35 (by decide) hk6).rd.alloc (.cells #[.int .i64 0, .int .i64 1] 3)
  refine (ints_any [0, 1] [0, 1] 2 2 A3 _ c3 2 _ rfl rfl (by exact hR) (Rd.new _ [.int .i64 0, .int .i64 1] _) (by omega) (by omega)).mono ?_
  rintro e w7 ⟨rfl, q, rfl⟩
  rw [show decide (([0, 1] : List Int) = [0, 1]) = true from rfl]
  have hb07 := below_drewN' (hb06.alloc hz6 (.cells #[.int .i64 0, .int .i64 1] 3)) q
  have hR6 := (ho6.rd.alloc (.cells #[.int .i64 0, .int .i64 1] 3)).drewN q
  have hz7 := hb07.size
  generalize (w6.alloc (.cells #[.int .i64 0, .int .i64 1] 3)).drewN q = w7 at *
  go_wp2_with fail
  refine (ints_any [0] [0] 1 1 A6 _ c6 1 _ rfl rfl (by exact hR6.alloc _) (Rd.new _ [.int .i64 0] _) (by omega) (by omega)).mono ?_
  rintro e w8 ⟨rfl, q', rfl⟩
  rw [show decide (([0] : List Int) = [0]) = true from rfl]
  have hb08 := below_drewN' (hb07.alloc hz7 (.cells #[.int .i64 0] 3)) q'
  go_wp2_with fail
  go_ret
  exact ⟨rfl, hb08⟩
end Go.Proofs.Ytnlaeiadakdbkaa
