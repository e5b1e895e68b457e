/- The walk of the reference's Same. -/
import Derived.Test.YtjfpflnijkokaaaSwB
namespace Go.Proofs.Ytjfpflnijkokaaa
open Go.RowKit

attribute [local go_sem ↓] Go.wp_at_zero Go.wp_at_succ

set_option maxHeartbeats 16000000 in
set_option maxRecDepth 100000 in
theorem rsame_any (a b : List SpanM) (n nb c cb : Nat) (A B : Option Addr) (w : World) (hl : a.length = n) (hr : Rd w A (spc a)) (hlb : b.length = nb) (hrb : Rd w B (spc b)) (hn : n ≤ 1000000) :
    Calls Try.prog 12 #[.slice A n c, .slice B nb cb] w fun e w' => e = .returned (.bool (decide (a = b))) ∧ ∃ q, w' = w.drewN q := by
  have Hl := Lib.hid hl
  have Hlb := Lib.hid hlb
  by_cases hnn : n = nb
  · subst hnn
    have Hcell : Hid (∀ j (h : j < n), ∃ b1 o1 b2 o2, A = some ⟨b1, o1, none⟩ ∧ B = some ⟨b2, o2, none⟩ ∧ (∀ q, (w.drewN q).cell? ⟨b1, o1 + j * 2, none⟩ = some (.int .i64 (a[j]'(by omega)).1)) ∧ (∀ q, (w.drewN q).cell? ⟨b1, o1 + j * 2 + 1, none⟩ = some (.int .i64 (a[j]'(by omega)).2)) ∧ (∀ q, (w.drewN q).cell? ⟨b2, o2 + j * 2, none⟩ = some (.int .i64 (b[j]'(by omega)).1)) ∧ (∀ q, (w.drewN q).cell? ⟨b2, o2 + j * 2 + 1, none⟩ = some (.int .i64 (b[j]'(by omega)).2))) := fun j h => by
      obtain ⟨b1, o1, e1, x0, x1⟩ := hr.span (j := j) (by omega)
      obtain ⟨b2, o2, e2, y0, y1⟩ := hrb.span (j := j) (by omega)
      exact ⟨b1, o1, b2, o2, e1, e2, fun q => x0, fun q => x1, fun q => y0, fun q => y1⟩
    obtain ⟨R, hR⟩ : ∃ R, decide (a = b) = R := ⟨_, rfl⟩
    rw [hR]
    have HR := Lib.hid hR
    clear hR hr hrb
    go_enter Try.func12, Try.ntmps12
    go_wp2_with fail
    go_loopw [5] (fun vi wr => ∃ (j q : Nat), vi = .int .i64 (j : Int) ∧ j ≤ n ∧ wr = w.drewN q ∧ Hid (a.take j = b.take j)) (fun vi _ => n - (intOf vi).toNat)
    case atStart => exact ⟨0, 0, rfl, by omega, rfl, rfl⟩
    case round =>
      obtain ⟨j, q, rfl, hj, rfl, Heq⟩ := hrel
      by_cases hjn : j < n
      · have hjI : (j : Int) < (n : Int) := by omega
        have hj0 : (0 : Int) ≤ (j : Int) := by omega
        obtain ⟨b1, o1, b2, o2, rfl, rfl, x0, x1, y0, y1⟩ := Hcell.out j hjn
        have hja : j < a.length := by rw [Hl.out]; exact hjn
        have hjb : j < b.length := by rw [Hlb.out]; exact hjn
        have ha := Lib.hid (List.take_succ_eq_append_getElem hja)
        have hb := Lib.hid (List.take_succ_eq_append_getElem hjb)
        have Hne : Hid (a[j] ≠ b[j] → R = false) := fun h => by
          rw [← HR.out]
          refine decide_eq_false fun e => h ?_
          subst e
          rfl
        generalize a[j] = s at *
        generalize b[j] = t at *
        obtain ⟨s1, s2⟩ := s
        obtain ⟨t1, t2⟩ := t
        have x0 := x0 q
        have x1 := x1 q
        have y0 := y0 q
        have y1 := y1 q
        dsimp only at x0 x1 y0 y1
        clear Hcell
        by_cases h1 : s1 = t1
        · by_cases h2 : s2 = t2
          · subst h1 h2
            have Heq2 : Hid (a.take (j + 1) = b.take (j + 1)) := by
              show _ = _
              rw [ha.out, hb.out, Heq.out]
            clear ha hb Hne
            go_wp2_with fail
            go_quiet (fail)
            go_wp2_with fail
            go_roundw
            case rel => exact ⟨j + 1, q + nq, by go_num, by omega, rfl, Heq2⟩
            case measure => simp only [intOf, Int.toNat_natCast]; omega
          · have hf : Hid (R = false) := Hne.out (fun e => h2 (congrArg Prod.snd e))
            clear ha hb Hne
            go_wp2_with fail
            go_quiet (fail)
            go_wp2_with fail
            go_ret
            rw [hf.out]
            exact ⟨rfl, q + nq, by rw [World.drewN_drewN]⟩
        · have hf : Hid (R = false) := Hne.out (fun e => h1 (congrArg Prod.fst e))
          clear ha hb Hne
          go_wp2_with fail
          go_quiet (fail)
          go_wp2_with fail
          go_ret
          rw [hf.out]
          exact ⟨rfl, q + nq, by rw [World.drewN_drewN]⟩
      · obtain rfl : j = n := by omega
        have hf : Hid (R = true) := by
          show _ = _
          rw [← HR.out]
          refine decide_eq_true ?_
          have := Heq.out
          rwa [List.take_of_length_le (by rw [Hl.out]; exact Nat.le_refl _), List.take_of_length_le (by rw [Hlb.out]; exact Nat.le_refl _)] at this
        go_wp2_with fail
        go_ret
        rw [hf.out]
        exact ⟨rfl, q, rfl⟩
  · have hf : Hid (decide (a = b) = false) := by
      show _ = _
      refine decide_eq_false fun e => hnn ?_
      rw [← hl, ← hlb, e]
    have hnI : ¬ (n : Int) = (nb : Int) := by omega
    clear hl hlb hr hrb
    go_enter Try.func12, Try.ntmps12
    go_wp2_with fail
    go_ret
    rw [hf.out]
    exact ⟨rfl, 0, rfl⟩
end Go.Proofs.Ytjfpflnijkokaaa
