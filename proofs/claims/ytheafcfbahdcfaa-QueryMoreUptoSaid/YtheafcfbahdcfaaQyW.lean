/- Walks: kinds, tables' places: the program's. -/
import Derived.Test.YtheafcfbahdcfaaQyM
import Derived.Test.YtheafcfbahdcfaaAkV
namespace Go.Proofs.Ytheafcfbahdcfaa
open Go.RowKit

attribute [local go_sem ↓] Go.wp_at_zero Go.wp_at_succ

set_option maxRecDepth 100000 in
theorem qright_any (k : Int) (w : World) : Calls Try.prog 17 #[.int .u8 k] w fun e w' => e = .returned (.bool (kindT k)) ∧ w = w' := by
  by_cases h1 : k = 1
  · subst h1
    go_enter Try.func17, Try.ntmps17
    go_wp2_with fail
    go_ret
    exact ⟨rfl, rfl⟩
  · by_cases h2 : k = 2
    · subst h2
      go_enter Try.func17, Try.ntmps17
      go_wp2_with fail
      go_ret
      exact ⟨rfl, rfl⟩
    · by_cases h3 : k = 3
      · subst h3
        go_enter Try.func17, Try.ntmps17
        go_wp2_with fail
        go_ret
        exact ⟨rfl, rfl⟩
      · have hk : kindT k = false := by unfold kindT; exact decide_eq_false (by omega)
        rw [hk]
        have e1 : (k == 1) = false := by rw [beq_eq_false_iff_ne]; exact h1
        have e2 : (k == 2) = false := by rw [beq_eq_false_iff_ne]; exact h2
        have e3 : (k == 3) = false := by rw [beq_eq_false_iff_ne]; exact h3
        clear hk
        go_enter Try.func17, Try.ntmps17
        go_wp2_with fail
        go_ret
        exact ⟨rfl, rfl⟩

set_option maxRecDepth 100000 in
theorem qnot_any (k : Int) (w : World) : Calls Try.prog 16 #[.int .u8 k] w fun e w' => e = .returned (.bool (!kindT k)) ∧ w = w' := by
  have hr := Lib.hid (qright_any k w)
  go_enter Try.func16, Try.ntmps16
  go_wp2_with fail
  refine hr.out.mono ?_
  rintro e w1 ⟨rfl, rfl⟩
  go_wp2_with fail
  go_ret
  exact ⟨rfl, rfl⟩

theorem Rd.kind {w : World} {A : Option Addr} {l : List Int} (h : Rd w A (kcells l)) {j : Nat} (hj : j < l.length) : ∃ b o, A = some ⟨b, o, none⟩ ∧ w.cell? ⟨b, o + j, none⟩ = some (.int .u8 l[j]) := by
  obtain ⟨b, o, e, _, _, c⟩ := h.get (k := j) (by rw [kcells_len]; exact hj)
  refine ⟨b, o, e, ?_⟩
  rw [c]
  unfold kcells
  rw [List.getElem_map]

set_option maxHeartbeats 4000000 in
set_option maxRecDepth 100000 in
theorem qindex_any (l : List Int) (L : Option Addr) (n c : Nat) (w : World) (hl : l.length = n) (hL : Rd w L (kcells l)) (hn : n ≤ 1000000) :
    Calls Try.prog 30 #[.slice L n c, .func (Fn.func 16) #[] #[]] w fun e w' => (∃ i : Int, e = .returned (.int .i64 i) ∧ (0 ≤ i ↔ l.all kindT = false)) ∧ w = w' := by
  have Hl := Lib.hid hl
  have HL := Lib.hid hL
  have Hr := Lib.hid (fun k => qnot_any k w)
  obtain ⟨R, hRR⟩ : ∃ R, R = l.all kindT := ⟨_, rfl⟩
  rw [← hRR]
  have HRR := Lib.hid hRR
  clear hl hL hRR
  go_enter Try.func30, Try.ntmps30
  go_wp2_with fail
  go_loopw [8] (fun vi wr => ∃ j : Nat, vi = .int .i64 j ∧ j ≤ n ∧ Hid ((l.take j).all kindT = true) ∧ Hid (wr = w)) (fun vi _ => n - (intOf vi).toNat)
  case atStart => exact ⟨0, rfl, by omega, rfl, rfl⟩
  case round =>
    obtain ⟨j, rfl, hj, Hall, Hw⟩ := hrel
    obtain rfl := Hw.out.symm
    by_cases hjn : j < n
    · have hjI : (j : Int) < (n : Int) := by omega
      have hjI0 : (0 : Int) ≤ (j : Int) := by omega
      have hjl : j < l.length := by rw [Hl.out]; exact hjn
      obtain ⟨b, o, rfl, c0⟩ := HL.out.kind hjl
      have hx := Hr.out l[j]
      have Htk := Lib.hid (List.take_succ_eq_append_getElem hjl)
      have Hmm := Lib.hid (List.getElem_mem hjl)
      generalize l[j] = x at *
      cases hR : kindT x
      · rw [hR] at hx
        have Hx := Lib.hid hx
        have HR : Hid (l.all kindT = false) := by
          show _ = _
          rw [List.all_eq_false]
          exact ⟨_, Hmm.out, by rw [hR]; decide⟩
        clear hx hR
        go_wp2_with fail
        refine Hx.out.mono ?_
        rintro e w1 ⟨rfl, rfl⟩
        go_wp2_with fail
        go_ret
        exact ⟨⟨j, rfl, ⟨fun _ => HRR.out.trans HR.out, fun _ => by omega⟩⟩, rfl⟩
      · rw [hR] at hx
        have Hx := Lib.hid hx
        have HR := Lib.hid hR
        clear hx hR
        go_wp2_with fail
        refine Hx.out.mono ?_
        rintro e w1 ⟨rfl, rfl⟩
        go_wp2_with fail
        go_roundw
        case rel => exact ⟨j + 1, by go_num, by omega, (by show _ = _; rw [Htk.out, List.all_append, Hall.out]; simp [HR.out]), trivial⟩
        case measure => simp [intOf]; omega
    · have HR : Hid (l.all kindT = true) := by
        have := Hall.out
        rw [List.take_of_length_le (by rw [Hl.out]; omega)] at this
        exact this
      go_wp2_with fail
      go_ret
      exact ⟨⟨-1, rfl, by rw [HRR.out, HR.out]; simp⟩, rfl⟩

set_option maxRecDepth 100000 in
theorem qconts_any (l : List Int) (L : Option Addr) (n c : Nat) (w : World) (hl : l.length = n) (hL : Rd w L (kcells l)) (hn : n ≤ 1000000) :
    Calls Try.prog 15 #[.slice L n c, .func (Fn.func 16) #[] #[]] w fun e w' => e = .returned (.bool (!l.all kindT)) ∧ w = w' := by
  have hi := Lib.hid (qindex_any l L n c w hl hL hn)
  clear hl hL
  go_enter Try.func15, Try.ntmps15
  go_wp2_with fail
  refine hi.out.mono ?_
  rintro e w1 ⟨⟨i, rfl, hR⟩, rfl⟩
  cases hA : l.all kindT
  · have h0 : 0 ≤ i := hR.2 hA
    clear hR hi
    have HA := Lib.hid hA
    clear hA
    go_wp2_with fail
    go_ret
    exact ⟨by rw [HA.out]; rfl, rfl⟩
  · have h0 : ¬ 0 ≤ i := fun h => by rw [hR.1 h] at hA; cases hA
    have hd := decide_eq_false h0
    clear hR hi
    have HA := Lib.hid hA
    clear hA
    go_wp2_with fail
    go_ret
    exact ⟨by rw [HA.out]; rfl, rfl⟩
end Go.Proofs.Ytheafcfbahdcfaa
