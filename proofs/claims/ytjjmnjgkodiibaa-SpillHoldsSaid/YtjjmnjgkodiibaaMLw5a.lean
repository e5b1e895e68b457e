/- What the statements of layer 5 share: lists that are compared, and the document's examples. -/
import Derived.Test.YtjjmnjgkodiibaaMPaAC
namespace Go.Proofs.Ytjjmnjgkodiibaa
open Go.RowKit

attribute [local go_sem ↓] Go.wp_at_zero Go.wp_at_succ

theorem ints_ne (l m : List Int) (n k : Nat) (A A' : Option Addr) (c c' : Nat) (w : World) (hl : l.length = n) (hm : m.length = k) (h : n ≠ k) (hn : n ≤ 140737488355328) (hk : k ≤ 140737488355328) :
    Calls Try.prog 26 #[.slice A n c, .slice A' k c'] w fun e w' => e = .returned (.bool (decide (l = m))) ∧ ∃ j, w.drewN j = w' := by
  have hd := Lib.hid (decide_eq_false (p := l = m) (fun e => h (by rw [← hl, ← hm, e])))
  have hne : ((n : Int) != (k : Int)) = true := by rw [bne_iff_ne]; omega
  clear hl hm h
  go_enter Try.func26, Try.ntmps26
  go_wp2_with fail
  go_ret
  exact ⟨by rw [hd.out]; rfl, 0, rfl⟩

set_option maxRecDepth 100000 in
theorem ints_any (l m : List Int) (n k : Nat) (A A' : Option Addr) (c c' : Nat) (w : World) (hl : l.length = n) (hm : m.length = k) (hA : Rd w A (Js l)) (hA' : Rd w A' (Js m)) (hn : n ≤ 140737488355328) (hk : k ≤ 140737488355328) :
    Calls Try.prog 26 #[.slice A n c, .slice A' k c'] w fun e w' => e = .returned (.bool (decide (l = m))) ∧ ∃ j, w.drewN j = w' := by
  by_cases hnk : n = k
  · subst hnk
    have Hl := Lib.hid hl
    have Hm := Lib.hid hm
    clear hl hm
    have hne : ((n : Int) != (n : Int)) = false := by simp
    go_enter Try.func26, Try.ntmps26
    go_wp2_with fail
    go_loopw [5] (fun i wr => ∃ (j q : Nat), j ≤ n ∧ i = .int .i64 j ∧ wr = w.drewN q ∧ Hid (l.take j = m.take j)) (fun i _ => n - (intOf i).toNat)
    case atStart => exact ⟨0, 0, by omega, rfl, rfl, rfl⟩
    case round =>
      obtain ⟨j, q, hj, rfl, rfl, heq⟩ := hrel
      by_cases hlt : j < n
      · obtain ⟨b, o, rfl, hb, _, hca⟩ := hA.get (k := j) (by rw [List.length_map, Hl.out]; exact hlt)
        obtain ⟨b', o', rfl, hb', _, hca'⟩ := hA'.get (k := j) (by rw [List.length_map, Hm.out]; exact hlt)
        rw [List.getElem_map] at hca hca'
        have ht := Lib.hid (List.take_succ_eq_append_getElem (l := l) (i := j) (by rw [Hl.out]; exact hlt))
        have ht' := Lib.hid (List.take_succ_eq_append_getElem (l := m) (i := j) (by rw [Hm.out]; exact hlt))
        have hx : Hid (∀ h : l = m, l[j]'(by rw [Hl.out]; exact hlt) = m[j]'(by rw [Hm.out]; exact hlt)) := by
          intro h
          subst h
          rfl
        clear hA hA'
        generalize l[j]'(by rw [Hl.out]; exact hlt) = x at *
        generalize m[j]'(by rw [Hm.out]; exact hlt) = y at *
        have hjI : (0 : Int) ≤ (j : Int) := by omega
        have hjI' : (j : Int) < (n : Int) := by omega
        by_cases hxy : x = y
        · subst hxy
          go_wp2_with fail
          go_quiet (fail)
          go_wp2_with fail
          go_roundw
          case rel =>
            refine ⟨j + 1, _, by omega, by go_num, rfl, ?_⟩
            show _ = _
            rw [ht.out, ht'.out, heq.out]
          case measure => simp [intOf]; omega
        · have hd := Lib.hid (decide_eq_false (p := l = m) (fun e => hxy (hx.out e)))
          have hb : (x != y) = true := by rw [bne_iff_ne]; exact hxy
          clear hxy
          go_wp2_with fail
          go_quiet (fail)
          go_wp2_with fail
          go_ret
          exact ⟨by rw [hd.out]; rfl, _, (World.drewN_drewN ..).symm⟩
      · obtain rfl : j = n := by omega
        have hd : Hid (decide (l = m) = true) := decide_eq_true (by
          have := heq.out
          rwa [List.take_of_length_le (by rw [Hl.out]; exact Nat.le_refl _), List.take_of_length_le (by rw [Hm.out]; exact Nat.le_refl _)] at this)
        go_wp2_with fail
        go_ret
        exact ⟨by rw [hd.out]; rfl, _, rfl⟩
  · exact ints_ne l m n k A A' c c' w hl hm hnk hn hk

theorem Rd.of_own_js {w : World} {base : Nat} {A : Option Addr} {n c : Nat} {l : List Nat} (h : Own w base 3 1 A n c (Is l)) : Rd w A (Js (l.map Int.ofNat)) := by
  rw [Js_Is]
  exact h.rd

def sh0 : Pg.St := [none, none]
def sh1 : Pg.St := Pg.putS sh0 (List.replicate 57 0)
def sh2 : Pg.St := Pg.dropS sh1 [0, 1]
theorem sh0_l : Pg.putL sh0 (List.replicate 57 0) = [0, 1] := by kernel_rfl
theorem sh0_e : Pg.putE sh0 (List.replicate 57 0) = 0 := by kernel_rfl
theorem sh1_e : Pg.allocE sh1 1 = 4 := by kernel_rfl
theorem sh1_l : Pg.allocL sh1 1 = [] := by kernel_rfl
theorem sh1_s : Pg.allocS sh1 1 = sh1 := by kernel_rfl
theorem sh2_e : Pg.allocE sh2 1 = 0 := by kernel_rfl
theorem sh2_l : Pg.allocL sh2 1 = [0] := by kernel_rfl

end Go.Proofs.Ytjjmnjgkodiibaa
