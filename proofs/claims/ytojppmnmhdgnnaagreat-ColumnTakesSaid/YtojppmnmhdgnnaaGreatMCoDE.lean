/- Walks: numbers by their steps, as bytes: the program's and the reference's. Walks: how many bits numbers need, and how many bytes: the program's and the reference's. -/
import Derived.Test.YtojppmnmhdgnnaaGreatMCoAB
import Derived.Test.YtojppmnmhdgnnaaGreatMCoMP
import Derived.Test.YtojppmnmhdgnnaaGreatMShelf
import Derived.Laws.BitsAllLaws
namespace Go.Proofs.YtojppmnmhdgnnaaGreat
set_option linter.unusedVariables false
set_option linter.unusedSimpArgs false
open Go.RowKit

attribute [local go_sem ↓] Go.wp_at_zero Go.wp_at_succ

def stepV (a b : Int) : Int := if stepOk a b = true then b - a else 0
def stepE (a b : Int) : Int := if stepOk a b = true then 0 else 8
theorem step_yes {a b : Int} (h : -9223372036854775808 ≤ b - a ∧ b - a ≤ 9223372036854775807) : stepOk a b = true := decide_eq_true h
theorem step_no {a b : Int} (h : ¬ (-9223372036854775808 ≤ b - a ∧ b - a ≤ 9223372036854775807)) : stepOk a b = false := decide_eq_false h

set_option maxRecDepth 100000 in
theorem dstep_any (a b : Int) (w : World) (ha : -9223372036854775808 ≤ a ∧ a ≤ 9223372036854775807) (hb : -9223372036854775808 ≤ b ∧ b ≤ 9223372036854775807) :
    Calls Tryz.prog 93 #[.int .i64 a, .int .i64 b] w fun e w' => e = .returned (.tuple #[.int .i64 (stepV a b), .int .i64 (stepE a b)]) ∧ w = w' := by
  unfold stepV stepE
  by_cases h : -9223372036854775808 ≤ b - a ∧ b - a ≤ 9223372036854775807
  · have hs := step_yes h
    rw [hs, if_pos rfl, if_pos rfl]
    have hw : IntKind.i64.wrap (b - a) = b - a := by rw [IntKind.wrap_i64]; omega
    by_cases hlt : b < a
    · have h1 : b - a < 0 := by omega
      have d1 : decide (b - a < 0) = true := decide_eq_true h1
      have d2 : decide (b < a) = true := decide_eq_true hlt
      clear hs h ha hb
      go_enter Tryz.func93, Tryz.ntmps93
      go_wp2_with fail
      go_ret2
      exact ⟨rfl, rfl⟩
    · have h1 : ¬ b - a < 0 := by omega
      have d1 : decide (b - a < 0) = false := decide_eq_false h1
      have d2 : decide (b < a) = false := decide_eq_false hlt
      clear hs h ha hb
      go_enter Tryz.func93, Tryz.ntmps93
      go_wp2_with fail
      go_ret2
      exact ⟨rfl, rfl⟩
  · have hs := step_no h
    rw [hs, if_neg (by decide), if_neg (by decide)]
    obtain ⟨n, hn⟩ : ∃ n, IntKind.i64.wrap (b - a) = n := ⟨_, rfl⟩
    have hn2 := hn
    rw [IntKind.wrap_i64] at hn2
    by_cases hlt : b < a
    · have h1 : ¬ n < 0 := by omega
      have d1 : decide (n < 0) = false := decide_eq_false h1
      have d2 : decide (b < a) = true := decide_eq_true hlt
      clear hs h ha hb hn2
      go_enter Tryz.func93, Tryz.ntmps93
      go_wp2_with fail
      go_ret2
      exact ⟨rfl, rfl⟩
    · have h1 : n < 0 := by omega
      have d1 : decide (n < 0) = true := decide_eq_true h1
      have d2 : decide (b < a) = false := decide_eq_false hlt
      clear hs h ha hb hn2
      go_enter Tryz.func93, Tryz.ntmps93
      go_wp2_with fail
      go_ret2
      exact ⟨rfl, rfl⟩

set_option maxRecDepth 100000 in
theorem rdstep_any (a b : Int) (w : World) (ha : -9223372036854775808 ≤ a ∧ a ≤ 9223372036854775807) (hb : -9223372036854775808 ≤ b ∧ b ≤ 9223372036854775807) :
    Calls Tryz.prog 99 #[.int .i64 a, .int .i64 b] w fun e w' => e = .returned (.tuple #[.int .i64 (stepV a b), .int .i64 (stepE a b)]) ∧ ∃ q, w' = w.drewN q := by
  unfold stepV stepE
  by_cases h0 : 0 ≤ a
  · by_cases h1 : b < 0
    · by_cases h2 : b < -9223372036854775808 + a
      · have hs := step_no (a := a) (b := b) (by omega)
        rw [hs, if_neg (by decide), if_neg (by decide)]
        have d0 : decide (0 ≤ a) = true := decide_eq_true (by omega)
        have d1 : decide (b < 0) = true := decide_eq_true (by omega)
        have d2 : decide (b < -9223372036854775808 + a) = true := decide_eq_true (by omega)
        have d3 : decide (a < 0) = false := decide_eq_false (by omega)
        have hw1 : IntKind.i64.wrap (-9223372036854775808 + a) = -9223372036854775808 + a := by rw [IntKind.wrap_i64]; omega
        clear hs ha hb
        go_enter Tryz.func99, Tryz.ntmps99
        go_wp2_with fail
        go_ret2
        exact ⟨rfl, 0, rfl⟩
      · have hs := step_yes (a := a) (b := b) (by omega)
        rw [hs, if_pos rfl, if_pos rfl]
        have hw : IntKind.i64.wrap (b - a) = b - a := by rw [IntKind.wrap_i64]; omega
        have d0 : decide (0 ≤ a) = true := decide_eq_true (by omega)
        have d1 : decide (b < 0) = true := decide_eq_true (by omega)
        have d2 : decide (b < -9223372036854775808 + a) = false := decide_eq_false (by omega)
        have d3 : decide (a < 0) = false := decide_eq_false (by omega)
        have hw1 : IntKind.i64.wrap (-9223372036854775808 + a) = -9223372036854775808 + a := by rw [IntKind.wrap_i64]; omega
        clear hs ha hb
        go_enter Tryz.func99, Tryz.ntmps99
        go_wp2_with fail
        go_ret2
        exact ⟨rfl, 0, rfl⟩
    · have hs := step_yes (a := a) (b := b) (by omega)
      rw [hs, if_pos rfl, if_pos rfl]
      have hw : IntKind.i64.wrap (b - a) = b - a := by rw [IntKind.wrap_i64]; omega
      have d0 : decide (0 ≤ a) = true := decide_eq_true (by omega)
      have d1 : decide (b < 0) = false := decide_eq_false (by omega)
      have d3 : decide (a < 0) = false := decide_eq_false (by omega)
      clear hs ha hb
      go_enter Tryz.func99, Tryz.ntmps99
      go_wp2_with fail
      go_ret2
      exact ⟨rfl, 0, rfl⟩
  · by_cases h1 : 0 ≤ b
    · by_cases h2 : 9223372036854775807 + a < b
      · have hs := step_no (a := a) (b := b) (by omega)
        rw [hs, if_neg (by decide), if_neg (by decide)]
        have d0 : decide (0 ≤ a) = false := decide_eq_false (by omega)
        have d1 : decide (0 ≤ b) = true := decide_eq_true (by omega)
        have d2 : decide (9223372036854775807 + a < b) = true := decide_eq_true (by omega)
        have d3 : decide (a < 0) = true := decide_eq_true (by omega)
        have hw2 : IntKind.i64.wrap (9223372036854775807 + a) = 9223372036854775807 + a := by rw [IntKind.wrap_i64]; omega
        clear hs ha hb
        go_enter Tryz.func99, Tryz.ntmps99
        go_wp2_with fail
        go_ret2
        exact ⟨rfl, 0, rfl⟩
      · have hs := step_yes (a := a) (b := b) (by omega)
        rw [hs, if_pos rfl, if_pos rfl]
        have hw : IntKind.i64.wrap (b - a) = b - a := by rw [IntKind.wrap_i64]; omega
        have d0 : decide (0 ≤ a) = false := decide_eq_false (by omega)
        have d1 : decide (0 ≤ b) = true := decide_eq_true (by omega)
        have d2 : decide (9223372036854775807 + a < b) = false := decide_eq_false (by omega)
        have d3 : decide (a < 0) = true := decide_eq_true (by omega)
        have hw2 : IntKind.i64.wrap (9223372036854775807 + a) = 9223372036854775807 + a := by rw [IntKind.wrap_i64]; omega
        clear hs ha hb
        go_enter Tryz.func99, Tryz.ntmps99
        go_wp2_with fail
        go_ret2
        exact ⟨rfl, 0, rfl⟩
    · have hs := step_yes (a := a) (b := b) (by omega)
      rw [hs, if_pos rfl, if_pos rfl]
      have hw : IntKind.i64.wrap (b - a) = b - a := by rw [IntKind.wrap_i64]; omega
      have d0 : decide (0 ≤ a) = false := decide_eq_false (by omega)
      have d1 : decide (0 ≤ b) = false := decide_eq_false (by omega)
      have d3 : decide (a < 0) = true := decide_eq_true (by omega)
      clear hs ha hb
      go_enter Tryz.func99, Tryz.ntmps99
      go_wp2_with fail
      go_ret2
      exact ⟨rfl, 0, rfl⟩

/-- How Put ends. -/
def DelOK (l : List Int) (w : World) (e : Ending) (w' : World) : Prop :=
  (deltaB l = none ∧ e = .returned (.tuple #[.slice none 0 0, .int .i64 8]) ∧ Below w.heap.size w w') ∨ ∃ b, deltaB l = some b ∧ BytOK b w e w'
theorem steps_map (S : List Int) (x : Int) (o : Option (List Int)) : (o.map (x :: ·)).map (S ++ ·) = o.map ((S ++ [x]) ++ ·) := by
  cases o <;> simp
theorem steps_next {l : List Int} {i : Nat} (hi : i < l.length) (last : Int) (S : List Int) : (stepsM last (l.drop i)).map (S ++ ·) = if stepOk last l[i] = true then (stepsM l[i] (l.drop (i + 1))).map ((S ++ [l[i] - last]) ++ ·) else none := by
  rw [List.drop_eq_getElem_cons hi, stepsM]
  split
  · exact steps_map _ _ _
  · rfl
theorem steps_part (S : List Int) (m : Nat) (hm : m ≤ 4096) (hl : S.length ≤ m) (hin : ∀ x ∈ S, -9223372036854775808 ≤ x ∧ x ≤ 9223372036854775807) : (numB m ++ S.flatMap fun n => numB (zigN n)).length ≤ 100000 := by
  have a := numB_le9 (n := m) (by omega)
  have b := fmap_le (fun n => numB (zigN n)) 9 S fun x hx => numB_le9 (zigN_lt (hin x hx))
  rw [List.length_append]
  omega
theorem steps_snoc (N : List UInt8) (S : List Int) (x : Int) : N ++ ((S ++ [x]).flatMap fun n => numB (zigN n)) = (N ++ S.flatMap fun n => numB (zigN n)) ++ numB (zigN x) := by
  rw [List.flatMap_append]
  simp

set_option maxHeartbeats 8000000 in
set_option maxRecDepth 100000 in
theorem deltaput_any (l : List Int) (n c : Nat) (A : Option Addr) (w : World) (hl : l.length = n) (hr : Rd w A (icl l)) (hn : n ≤ 4096) (hin : ∀ x ∈ l, -9223372036854775808 ≤ x ∧ x ≤ 9223372036854775807) :
    Calls Tryz.prog 69 #[.slice A n c] w fun e w' => DelOK l w e w' := by
  have Hl := Lib.hid hl
  have Hr := Lib.hid hr
  have Hin := Lib.hid hin
  have hres : Hid (deltaB l = (stepsM 0 l).map fun s => numB n ++ s.flatMap fun n => numB (zigN n)) := by show _ = _; unfold deltaB; rw [hl]
  have hR0 : Hid (stepsM 0 l = (stepsM 0 (l.drop 0)).map ([] ++ ·)) := by show _ = _; rw [List.drop_zero]; cases stepsM 0 l <;> simp
  obtain ⟨R, hR⟩ : ∃ R, stepsM 0 l = R := ⟨_, rfl⟩
  rw [hR] at hres hR0
  have hwn : IntKind.u64.wrap (n : Int) = (n : Int) := by rw [IntKind.wrap_u64]; omega
  clear hl hr hin hR
  go_enter Tryz.func69, Tryz.ntmps69
  go_wp2_with fail
  refine (onum_any [] 0 0 n none w rfl (Rd.nil _ _) (by omega) (by omega)).mono ?_
  rintro e w2 ⟨A2, c2, rfl, ho2, hb2⟩
  rw [List.nil_append, Nat.zero_add] at ho2
  rw [Nat.zero_add]
  have Hb2 := Lib.hid hb2
  have Ho2 := Lib.hid ho2
  clear ho2 hb2
  go_wp2_with fail
  go_loopw [4, 5, 19] (fun vb vl vi wr => ∃ (j bl c' : Nat) (A' : Option Addr) (last : Int) (S : List Int), vb = .slice A' bl c' ∧ vl = .int .i64 last ∧ vi = .int .i64 (j : Int) ∧ j ≤ n ∧ (-9223372036854775808 ≤ last ∧ last ≤ 9223372036854775807) ∧ Hid (S.length = j) ∧ Hid (∀ x ∈ S, -9223372036854775808 ≤ x ∧ x ≤ 9223372036854775807) ∧ Hid (R = (stepsM last (l.drop j)).map (S ++ ·)) ∧ Hid ((numB n ++ S.flatMap fun n => numB (zigN n)).length = bl) ∧ Hid (Own wr w.heap.size 5 1 A' bl c' (Bs (numB n ++ S.flatMap fun n => numB (zigN n)))) ∧ Hid (Below w.heap.size w wr)) (fun _ _ vi _ => n - (intOf vi).toNat)
  case atStart => exact ⟨0, _, c2, A2, 0, [], rfl, rfl, rfl, by omega, by omega, rfl, (fun x hx => by simp at hx), hR0, (by show _ = _; simp), (by show Own _ _ _ _ _ _ _ _; simpa using Ho2.out), Hb2⟩
  case round =>
    obtain ⟨j, bl, c', A', last, S, rfl, rfl, rfl, hj, hlast, HS, HSin, HR, Hbl, Ho, Hb⟩ := hrel
    by_cases hjn : j < n
    · have hjl : j < l.length := by rw [Hl.out]; exact hjn
      have hjI : (j : Int) < (n : Int) := by omega
      have hj0 : (0 : Int) ≤ (j : Int) := by omega
      obtain ⟨b, o, rfl, c0⟩ := icl_get (Hr.out.below Hb.out) hjl
      have Hcell : Hid (∀ w', Below w.heap.size w w' → w'.cell? ⟨b, o + j, none⟩ = some (.int .i64 l[j])) := fun w' h => by
        obtain ⟨b', o', e, d0⟩ := icl_get (Hr.out.below h) hjl
        cases e
        exact d0
      have hx := Hin.out _ (List.getElem_mem hjl)
      have Hnx := Lib.hid (steps_next hjl last S)
      have Hbl2 := steps_part S n (by omega) (by rw [HS.out]; omega) HSin.out
      rw [Hbl.out] at Hbl2
      generalize l[j] = x at *
      have hstep := Lib.hid (fun w' => dstep_any last x w' hlast hx)
      cases hok : stepOk last x
      · have hf : Hid (deltaB l = none) := by
          show _ = _
          rw [hres.out, HR.out, Hnx.out, hok]
          rfl
        unfold stepV stepE at hstep
        rw [hok, if_neg (by decide), if_neg (by decide)] at hstep
        clear hjl HR Hnx Ho hok
        go_wp2_with fail
        refine (hstep.out _).mono ?_
        rintro e w4 ⟨rfl, rfl⟩
        go_wp2_with fail
        go_ret2
        exact .inl ⟨hf.out, rfl, Hb.out⟩
      · have hs : -9223372036854775808 ≤ x - last ∧ x - last ≤ 9223372036854775807 := of_decide_eq_true hok
        have HR2 : Hid (R = (stepsM x (l.drop (j + 1))).map ((S ++ [x - last]) ++ ·)) := by
          show _ = _
          rw [HR.out, Hnx.out, if_pos hok]
        have Hsn := Lib.hid (steps_snoc (numB n) S (x - last))
        have HS2 : Hid ((S ++ [x - last]).length = j + 1) := by show _ = _; rw [List.length_append, HS.out]; rfl
        have HSin2 : Hid (∀ y ∈ S ++ [x - last], -9223372036854775808 ≤ y ∧ y ≤ 9223372036854775807) := fun y hy => by
          rcases List.mem_append.1 hy with hy | hy
          · exact HSin.out y hy
          · rw [List.mem_singleton.1 hy]; exact hs
        unfold stepV stepE at hstep
        rw [hok, if_pos rfl, if_pos rfl] at hstep
        generalize x - last = s at *
        generalize numB n ++ S.flatMap (fun n => numB (zigN n)) = B0 at *
        have hz9 := numB_le9 (zigN_lt hs)
        have Hs := Lib.hid hs
        have Hrd := Lib.hid Ho.out.rd
        clear hjl HR Hnx Ho hok
        go_wp2_with fail
        refine (hstep.out _).mono ?_
        rintro e w4 ⟨rfl, rfl⟩
        have Hb4 : Hid (Below w.heap.size w wr) := Hb.out
        have Hrd4 : Hid (Rd wr A' (Bs B0)) := Hrd.out
        clear Hb Hrd c0
        go_wp2_with fail
        refine (int_any B0 bl c' s A' _ Hbl.out Hrd4.out (by omega) Hs.out).mono ?_
        rintro e w6 ⟨A6, c6, rfl, ho6, hb6⟩
        rw [← Hsn.out] at ho6
        have Hb6 := Lib.hid (Hb4.out.trans (hb6.mono Hb4.out.size))
        have HO6 := Lib.hid (ho6.lower Hb4.out.size)
        have Hl6 : Hid ((numB n ++ (S ++ [s]).flatMap fun n => numB (zigN n)).length = bl + (numB (zigN s)).length) := by
          show _ = _
          rw [Hsn.out, List.length_append, Hbl.out]
        have c6' := Hcell.out w6 Hb6.out
        clear ho6 hb6
        go_wp2_with fail
        go_roundw
        case rel => exact ⟨j + 1, _, c6, A6, x, S ++ [s], rfl, rfl, by go_num, by omega, hx, HS2, HSin2, HR2, Hl6, HO6, Hb6⟩
        case measure => simp only [intOf, Int.toNat_natCast]; omega
    · obtain rfl : j = n := by omega
      have hta : Hid (deltaB l = some (numB j ++ S.flatMap fun n => numB (zigN n))) := by
        show _ = _
        rw [hres.out, HR.out, List.drop_eq_nil_of_le (by rw [Hl.out]; exact Nat.le_refl _)]
        simp [stepsM]
      generalize numB j ++ S.flatMap (fun n => numB (zigN n)) = B0 at *
      rw [← Hbl.out] at Ho ⊢
      clear HR
      go_wp2_with fail
      go_ret2
      exact .inr ⟨B0, hta.out, ⟨_, _, rfl, Ho.out⟩, Hb.out⟩

set_option maxHeartbeats 8000000 in
set_option maxRecDepth 100000 in
theorem rdeltaput_any (l : List Int) (n c : Nat) (A : Option Addr) (w : World) (hl : l.length = n) (hr : Rd w A (icl l)) (hn : n ≤ 4096) (hin : ∀ x ∈ l, -9223372036854775808 ≤ x ∧ x ≤ 9223372036854775807) :
    Calls Tryz.prog 78 #[.slice A n c] w fun e w' => DelOK l w e w' := by
  have Hl := Lib.hid hl
  have Hr := Lib.hid hr
  have Hin := Lib.hid hin
  have hres : Hid (deltaB l = (stepsM 0 l).map fun s => numB n ++ s.flatMap fun n => numB (zigN n)) := by show _ = _; unfold deltaB; rw [hl]
  have hR0 : Hid (stepsM 0 l = (stepsM 0 (l.drop 0)).map ([] ++ ·)) := by show _ = _; rw [List.drop_zero]; cases stepsM 0 l <;> simp
  obtain ⟨R, hR⟩ : ∃ R, stepsM 0 l = R := ⟨_, rfl⟩
  rw [hR] at hres hR0
  have hwn : IntKind.u64.wrap (n : Int) = (n : Int) := by rw [IntKind.wrap_u64]; omega
  clear hl hr hin hR
  go_enter Tryz.func78, Tryz.ntmps78
  go_wp2_with fail
  refine (rnum_any [] 0 0 n none w rfl (Rd.nil _ _) (by omega) (by omega)).mono ?_
  rintro e w2 ⟨A2, c2, rfl, ho2, hb2⟩
  rw [List.nil_append, Nat.zero_add] at ho2
  rw [Nat.zero_add]
  have Hb2 := Lib.hid hb2
  have Ho2 := Lib.hid ho2
  clear ho2 hb2
  go_wp2_with fail
  go_loopw [4, 5, 6] (fun vb vl vi wr => ∃ (j bl c' : Nat) (A' : Option Addr) (last : Int) (S : List Int), vb = .slice A' bl c' ∧ vl = .int .i64 last ∧ vi = .int .i64 (j : Int) ∧ j ≤ n ∧ (-9223372036854775808 ≤ last ∧ last ≤ 9223372036854775807) ∧ Hid (S.length = j) ∧ Hid (∀ x ∈ S, -9223372036854775808 ≤ x ∧ x ≤ 9223372036854775807) ∧ Hid (R = (stepsM last (l.drop j)).map (S ++ ·)) ∧ Hid ((numB n ++ S.flatMap fun n => numB (zigN n)).length = bl) ∧ Hid (Own wr w.heap.size 5 1 A' bl c' (Bs (numB n ++ S.flatMap fun n => numB (zigN n)))) ∧ Hid (Below w.heap.size w wr)) (fun _ _ vi _ => n - (intOf vi).toNat)
  case atStart => exact ⟨0, _, c2, A2, 0, [], rfl, rfl, rfl, by omega, by omega, rfl, (fun x hx => by simp at hx), hR0, (by show _ = _; simp), (by show Own _ _ _ _ _ _ _ _; simpa using Ho2.out), Hb2⟩
  case round =>
    obtain ⟨j, bl, c', A', last, S, rfl, rfl, rfl, hj, hlast, HS, HSin, HR, Hbl, Ho, Hb⟩ := hrel
    by_cases hjn : j < n
    · have hjl : j < l.length := by rw [Hl.out]; exact hjn
      have hjI : (j : Int) < (n : Int) := by omega
      have hj0 : (0 : Int) ≤ (j : Int) := by omega
      obtain ⟨b, o, rfl, c0⟩ := icl_get (Hr.out.below Hb.out) hjl
      have Hcell : Hid (∀ w', Below w.heap.size w w' → w'.cell? ⟨b, o + j, none⟩ = some (.int .i64 l[j])) := fun w' h => by
        obtain ⟨b', o', e, d0⟩ := icl_get (Hr.out.below h) hjl
        cases e
        exact d0
      have hx := Hin.out _ (List.getElem_mem hjl)
      have Hnx := Lib.hid (steps_next hjl last S)
      have Hbl2 := steps_part S n (by omega) (by rw [HS.out]; omega) HSin.out
      rw [Hbl.out] at Hbl2
      generalize l[j] = x at *
      have hstep := Lib.hid (fun w' => rdstep_any last x w' hlast hx)
      cases hok : stepOk last x
      · have hf : Hid (deltaB l = none) := by
          show _ = _
          rw [hres.out, HR.out, Hnx.out, hok]
          rfl
        unfold stepV stepE at hstep
        rw [hok, if_neg (by decide), if_neg (by decide)] at hstep
        clear hjl HR Hnx Ho hok
        go_wp2_with fail
        refine (hstep.out _).mono ?_
        rintro e w4 ⟨rfl, q, rfl⟩
        go_wp2_with fail
        go_ret2
        exact .inl ⟨hf.out, rfl, below_drewN' Hb.out q⟩
      · have hs : -9223372036854775808 ≤ x - last ∧ x - last ≤ 9223372036854775807 := of_decide_eq_true hok
        have HR2 : Hid (R = (stepsM x (l.drop (j + 1))).map ((S ++ [x - last]) ++ ·)) := by
          show _ = _
          rw [HR.out, Hnx.out, if_pos hok]
        have Hsn := Lib.hid (steps_snoc (numB n) S (x - last))
        have HS2 : Hid ((S ++ [x - last]).length = j + 1) := by show _ = _; rw [List.length_append, HS.out]; rfl
        have HSin2 : Hid (∀ y ∈ S ++ [x - last], -9223372036854775808 ≤ y ∧ y ≤ 9223372036854775807) := fun y hy => by
          rcases List.mem_append.1 hy with hy | hy
          · exact HSin.out y hy
          · rw [List.mem_singleton.1 hy]; exact hs
        unfold stepV stepE at hstep
        rw [hok, if_pos rfl, if_pos rfl] at hstep
        generalize x - last = s at *
        generalize numB n ++ S.flatMap (fun n => numB (zigN n)) = B0 at *
        have hz9 := numB_le9 (zigN_lt hs)
        have Hs := Lib.hid hs
        have Hrd := Lib.hid Ho.out.rd
        clear hjl HR Hnx Ho hok
        go_wp2_with fail
        refine (hstep.out _).mono ?_
        rintro e w4 ⟨rfl, q, rfl⟩
        have Hb4 : Hid (Below w.heap.size w (wr.drewN q)) := below_drewN' Hb.out q
        have Hrd4 : Hid (Rd (wr.drewN q) A' (Bs B0)) := Hrd.out
        clear Hb Hrd c0
        go_wp2_with fail
        refine (rint_any B0 bl c' s A' _ Hbl.out Hrd4.out (by omega) Hs.out).mono ?_
        rintro e w6 ⟨A6, c6, rfl, ho6, hb6⟩
        rw [← Hsn.out] at ho6
        have Hb6 := Lib.hid (Hb4.out.trans (hb6.mono Hb4.out.size))
        have HO6 := Lib.hid (ho6.lower Hb4.out.size)
        have Hl6 : Hid ((numB n ++ (S ++ [s]).flatMap fun n => numB (zigN n)).length = bl + (numB (zigN s)).length) := by
          show _ = _
          rw [Hsn.out, List.length_append, Hbl.out]
        have c6' := Hcell.out w6 Hb6.out
        clear ho6 hb6
        go_wp2_with fail
        go_roundw
        case rel => exact ⟨j + 1, _, c6, A6, x, S ++ [s], rfl, rfl, by go_num, by omega, hx, HS2, HSin2, HR2, Hl6, HO6, Hb6⟩
        case measure => simp only [intOf, Int.toNat_natCast]; omega
    · obtain rfl : j = n := by omega
      have hta : Hid (deltaB l = some (numB j ++ S.flatMap fun n => numB (zigN n))) := by
        show _ = _
        rw [hres.out, HR.out, List.drop_eq_nil_of_le (by rw [Hl.out]; exact Nat.le_refl _)]
        simp [stepsM]
      generalize numB j ++ S.flatMap (fun n => numB (zigN n)) = B0 at *
      rw [← Hbl.out] at Ho ⊢
      clear HR
      go_wp2_with fail
      go_ret2
      exact .inr ⟨B0, hta.out, ⟨_, _, rfl, Ho.out⟩, Hb.out⟩

end Go.Proofs.YtojppmnmhdgnnaaGreat
namespace Go.Proofs.YtojppmnmhdgnnaaGreat
set_option linter.unusedVariables false
set_option linter.unusedSimpArgs false
open Go.RowKit

attribute [local go_sem ↓] Go.wp_at_zero Go.wp_at_succ

def ucl (l : List Nat) : List Value := l.map fun n : Nat => .int .u64 (n : Int)
theorem ucl_len (l : List Nat) : (ucl l).length = l.length := List.length_map _
theorem ucl_append (l m : List Nat) : ucl (l ++ m) = ucl l ++ ucl m := List.map_append
theorem Eu64 : ElemT Tryz.prog 72 52 1 8 (.int .u64 0) := ElemT.mk' (by kernel_rfl) (by kernel_rfl) rfl (by omega)
theorem ucl_get {w : World} {A : Option Addr} {l : List Nat} (h : Rd w A (ucl l)) {j : Nat} (hj : j < l.length) : ∃ b o, A = some ⟨b, o, none⟩ ∧ w.cell? ⟨b, o + j, none⟩ = some (.int .u64 (l[j] : Int)) := by
  obtain ⟨b, o, e, hr⟩ := h (by intro e; have := congrArg List.length e; rw [ucl_len, List.length_nil] at this; omega)
  refine ⟨b, o, e, hr j _ ?_⟩
  unfold ucl
  rw [List.getElem?_map, List.getElem?_eq_getElem hj]
  rfl

set_option maxHeartbeats 4000000 in
set_option maxRecDepth 100000 in
theorem width_any (l : List Nat) (n c : Nat) (A : Option Addr) (w : World) (hl : l.length = n) (hr : Rd w A (ucl l)) (hn : n ≤ 1000000) (hin : ∀ x ∈ l, x < 18446744073709551616) :
    Calls Tryz.prog 39 #[.slice A n c] w fun e w' => e = .returned (.int .i64 (widthM l : Int)) ∧ w = w' := by
  have Hl := Lib.hid hl
  have Hr := Lib.hid hr
  have Hin := Lib.hid hin
  obtain ⟨R, hR⟩ : ∃ R, widthM l = R := ⟨_, rfl⟩
  rw [hR]
  have HR := Lib.hid hR
  clear hl hr hin hR
  go_enter Tryz.func39, Tryz.ntmps39
  go_wp2_with fail
  go_loop [3, 8] (fun va vi => ∃ i a : Nat, va = .int .u64 (a : Int) ∧ vi = .int .i64 (i : Int) ∧ i ≤ n ∧ a = (l.take i).foldl (fun a n => a ||| n) 0 ∧ a < 18446744073709551616) (fun _ vi => n - (intOf vi).toNat)
  case atStart => exact ⟨0, 0, rfl, rfl, by omega, by simp, by omega⟩
  case round =>
    obtain ⟨i, a, rfl, rfl, hi, ha, ha64⟩ := hrel
    by_cases hin : i < n
    · have hil : i < l.length := by rw [Hl.out]; exact hin
      have hiI : (i : Int) < (n : Int) := by omega
      have hi0 : (0 : Int) ≤ (i : Int) := by omega
      obtain ⟨b, o, rfl, c0⟩ := ucl_get Hr.out hil
      have hx := Hin.out _ (List.getElem_mem hil)
      have Ha : Hid ((l.take (i + 1)).foldl (fun a n => a ||| n) 0 = a ||| l[i]) := by
        show _ = _
        rw [List.take_succ_eq_append_getElem hil, List.foldl_append, ← ha]
        rfl
      generalize l[i] = x at *
      have hor : bits .or .u64 (a : Int) (x : Int) = ((a ||| x : Nat) : Int) := u64_or_nat a x ha64 hx
      have h64 : a ||| x < 18446744073709551616 := Nat.or_lt_two_pow (n := 64) ha64 hx
      generalize a ||| x = y at *
      clear ha ha64 hil hx
      go_wp2_with fail
      go_round
      case rel => exact ⟨i + 1, y, rfl, by go_num, by omega, Ha.out.symm, h64⟩
      case measure => simp only [intOf, Int.toNat_natCast]; omega
    · obtain rfl : i = n := by omega
      have hwd : Hid (widthM l = Lib.bitLen a) := by
        show _ = _
        rw [ha, List.take_of_length_le (by rw [Hl.out]; exact Nat.le_refl _)]
        rfl
      have hb := Tryz.bits_Len64 (a : Int) w (by omega) (by omega)
      rw [Int.toNat_natCast] at hb
      have Hbb := Lib.hid hb
      clear ha hb
      go_wp2_with fail
      refine Hbb.out.mono ?_
      rintro e w1 ⟨rfl, hw1⟩
      obtain rfl : w = w1 := hw1.symm
      go_wp2_with fail
      go_ret
      exact ⟨by rw [← HR.out, hwd.out]; rfl, rfl⟩

set_option maxHeartbeats 4000000 in
set_option maxRecDepth 100000 in
theorem rbits_any (n : Nat) (w : World) (hn : n < 18446744073709551616) :
    Calls Tryz.prog 107 #[.int .u64 (n : Int)] w fun e w' => e = .returned (.int .i64 (Lib.bitLen n : Int)) ∧ w = w' := by
  obtain ⟨R, hR⟩ : ∃ R, Lib.bitLen n = R := ⟨_, rfl⟩
  have hR64 : R ≤ 64 := by rw [← hR]; exact (bitLen_lt hn (Nat.le_refl _)).2 hn
  rw [hR]
  have HR := Lib.hid hR
  clear hR
  go_enter Tryz.func107, Tryz.ntmps107
  go_wp2_with fail
  go_loop [0, 3] (fun vn vk => ∃ m k : Nat, vn = .int .u64 (m : Int) ∧ vk = .int .i64 (k : Int) ∧ m < 18446744073709551616 ∧ k ≤ 64 ∧ Hid (Lib.bitLen m + k = R)) (fun vn _ => (intOf vn).toNat)
  case atStart => exact ⟨n, 0, rfl, rfl, hn, by omega, HR.out⟩
  case round =>
    obtain ⟨m, k, rfl, rfl, hm, hk, HK⟩ := hrel
    by_cases h0 : 0 < m
    · have hmI : (0 : Int) < (m : Int) := by omega
      have h2 := Lib.bitLen_half m (by omega) hm
      have hk1 : k + 1 ≤ 64 := by have := HK.out; omega
      have HK2 : Hid (Lib.bitLen (m / 2) + (k + 1) = R) := by show _ = _; have := HK.out; omega
      have hq : (m : Int) / 2 = ((m / 2 : Nat) : Int) := by omega
      have hq2 : Int.tdiv (m : Int) 2 = ((m / 2 : Nat) : Int) := by rw [Int.tdiv_eq_ediv_of_nonneg (by omega)]; exact hq
      have hlt : m / 2 < m := by omega
      generalize m / 2 = d at *
      clear h2
      go_wp2_with fail
      go_round
      case rel => exact ⟨d, k + 1, rfl, by go_num, by omega, hk1, HK2⟩
      case measure => simp only [intOf, Int.toNat_natCast]; omega
    · obtain rfl : m = 0 := by omega
      have hkR : k = R := by
        have := HK.out
        rw [show Lib.bitLen 0 = 0 from by decide] at this
        omega
      go_wp2_with fail
      go_ret
      exact ⟨rfl, rfl⟩

set_option maxHeartbeats 4000000 in
set_option maxRecDepth 100000 in
theorem rwidth_any (l : List Nat) (n c : Nat) (A : Option Addr) (w : World) (hl : l.length = n) (hr : Rd w A (ucl l)) (hn : n ≤ 1000000) (hin : ∀ x ∈ l, x < 18446744073709551616) :
    Calls Tryz.prog 98 #[.slice A n c] w fun e w' => e = .returned (.int .i64 (widthM l : Int)) ∧ w = w' := by
  have Hl := Lib.hid hl
  have Hr := Lib.hid hr
  have Hin := Lib.hid hin
  have hwm := Lib.hid (width_max hin)
  obtain ⟨R, hR⟩ : ∃ R, widthM l = R := ⟨_, rfl⟩
  rw [hR]
  have HR := Lib.hid hR
  clear hl hr hin hR
  go_enter Tryz.func98, Tryz.ntmps98
  go_wp2_with fail
  go_loop [3, 4] (fun va vi => ∃ i a : Nat, va = .int .i64 (a : Int) ∧ vi = .int .i64 (i : Int) ∧ i ≤ n ∧ Hid (a = ((l.take i).map Lib.bitLen).foldl max 0) ∧ a ≤ 64) (fun _ vi => n - (intOf vi).toNat)
  case atStart => exact ⟨0, 0, rfl, rfl, by omega, (by show _ = _; simp), by omega⟩
  case round =>
    obtain ⟨i, a, rfl, rfl, hi, Ha, ha64⟩ := hrel
    by_cases hin : i < n
    · have hil : i < l.length := by rw [Hl.out]; exact hin
      have hiI : (i : Int) < (n : Int) := by omega
      have hi0 : (0 : Int) ≤ (i : Int) := by omega
      obtain ⟨b, o, rfl, c0⟩ := ucl_get Hr.out hil
      have hx := Hin.out _ (List.getElem_mem hil)
      have Ha2 : Hid (((l.take (i + 1)).map Lib.bitLen).foldl max 0 = max a (Lib.bitLen l[i])) := by
        show _ = _
        rw [List.take_succ_eq_append_getElem hil, List.map_append, List.foldl_append, ← Ha.out]
        rfl
      have hb := Lib.hid (rbits_any l[i] w hx)
      have hb64 := (bitLen_lt hx (Nat.le_refl _)).2 hx
      generalize l[i] = x at *
      generalize Lib.bitLen x = y at *
      obtain ⟨M, hM⟩ : ∃ M, max a y = M := ⟨_, rfl⟩
      have hMI : max (a : Int) (y : Int) = (M : Int) := by omega
      have HA2 : Hid (M = ((l.take (i + 1)).map Lib.bitLen).foldl max 0) := by show _ = _; rw [Ha2.out, hM]
      have hM64 : M ≤ 64 := by omega
      clear hil hx Ha hM
      go_wp2_with fail
      refine hb.out.mono ?_
      rintro e w1 ⟨rfl, rfl⟩
      go_wp2_with fail
      go_round
      case rel => exact ⟨i + 1, M, rfl, by go_num, by omega, HA2, hM64⟩
      case measure => simp only [intOf, Int.toNat_natCast]; omega
    · obtain rfl : i = n := by omega
      have hwd : Hid (widthM l = a) := by
        show _ = _
        rw [hwm.out, Ha.out, List.take_of_length_le (by rw [Hl.out]; exact Nat.le_refl _)]
      clear Ha
      go_wp2_with fail
      go_ret
      exact ⟨by rw [← HR.out, hwd.out]; rfl, rfl⟩

set_option maxRecDepth 100000 in
theorem bytes_any (m k : Nat) (w : World) (hm : m ≤ 4096) (hk : k ≤ 64) :
    Calls Tryz.prog 64 #[.int .i64 (m : Int), .int .i64 (k : Int)] w fun e w' => e = .returned (.tuple #[.int .i64 (bytesN m k : Int), .int .i64 0]) ∧ w = w' := by
  obtain ⟨P, hP⟩ : ∃ P, m * k = P := ⟨_, rfl⟩
  have hPl : P ≤ 4096 * 64 := by rw [← hP]; exact Nat.mul_le_mul hm hk
  have hPI : (m : Int) * (k : Int) = (P : Int) := by rw [← hP]; exact (Int.natCast_mul m k).symm
  have hB : bytesN m k = (P + 7) / 8 := by unfold bytesN; rw [hP]
  rw [hB]
  obtain ⟨B, hBB⟩ : ∃ B, (P + 7) / 8 = B := ⟨_, rfl⟩
  rw [hBB]
  have hq : ((P : Int) + 7) / 8 = (B : Int) := by omega
  have hq2 : Int.tdiv ((P : Int) + 7) 8 = (B : Int) := by rw [Int.tdiv_eq_ediv_of_nonneg (by omega)]; exact hq
  have hmI : (m : Int) ≤ 4096 := by omega
  have hkI : (k : Int) ≤ 64 := by omega
  clear hP hB hBB
  go_enter Tryz.func64, Tryz.ntmps64
  go_wp2_with fail
  go_ret2
  exact ⟨rfl, rfl⟩
set_option maxRecDepth 100000 in
theorem rbytes_any (m k : Nat) (w : World) (hm : m ≤ 4096) (hk : k ≤ 64) :
    Calls Tryz.prog 96 #[.int .i64 (m : Int), .int .i64 (k : Int)] w fun e w' => e = .returned (.tuple #[.int .i64 (bytesN m k : Int), .int .i64 0]) ∧ w = w' := by
  obtain ⟨P, hP⟩ : ∃ P, m * k = P := ⟨_, rfl⟩
  have hPl : P ≤ 4096 * 64 := by rw [← hP]; exact Nat.mul_le_mul hm hk
  have hPI : (m : Int) * (k : Int) = (P : Int) := by rw [← hP]; exact (Int.natCast_mul m k).symm
  have hB : bytesN m k = (P + 7) / 8 := by unfold bytesN; rw [hP]
  rw [hB]
  obtain ⟨B, hBB⟩ : ∃ B, (P + 7) / 8 = B := ⟨_, rfl⟩
  rw [hBB]
  have hq : ((P : Int) + 7) / 8 = (B : Int) := by omega
  have hq2 : Int.tdiv ((P : Int) + 7) 8 = (B : Int) := by rw [Int.tdiv_eq_ediv_of_nonneg (by omega)]; exact hq
  have hmI : (m : Int) ≤ 4096 := by omega
  have hkI : (k : Int) ≤ 64 := by omega
  clear hP hB hBB
  go_enter Tryz.func96, Tryz.ntmps96
  go_wp2_with fail
  go_ret2
  exact ⟨rfl, rfl⟩
end Go.Proofs.YtojppmnmhdgnnaaGreat
