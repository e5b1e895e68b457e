/- How long a column's bytes are; what Take tells of what was put (plain, and as contracts). (Printed by gen_tle.py.) The walk of ColumnBack. (Printed by gen_tlf.py.) -/
import Derived.Test.YtojppmnmhdgnnaaGreatMTlCD
import Derived.Test.YtojppmnmhdgnnaaGreatMCoTW
namespace Go.Proofs.YtojppmnmhdgnnaaGreat
set_option linter.unusedVariables false
set_option linter.unusedSimpArgs false
open Go.RowKit

theorem layP_le3 {kind how : Int} {N : List Int} {X : List (List UInt8)} (hN : ∀ x ∈ N, -9223372036854775808 ≤ x ∧ x ≤ 9223372036854775807) (hNl : N.length ≤ 4096) (hX : ∀ s ∈ X, s.length ≤ 1024) (hXl : X.length ≤ 300) : (layP kind how N X).1.length ≤ 380000 := by
  have h1 := flatN_le hN hNl N.length
  have h2 : (flatX X).length ≤ 309900 := by
    have b := fmap_le (fun s : List UInt8 => numB s.length ++ s) 1033 X fun s hs => by
      have h1 := hX s hs
      have h2 := numB_le9 (n := s.length) (by omega)
      rw [List.length_append]
      omega
    unfold flatX
    omega
  rw [List.take_length] at h1
  have hp : (flatN N ++ flatX X).length ≤ 380000 := by rw [List.length_append]; omega
  unfold layP
  split
  · exact hp
  · split
    · have := runsB_le hN hNl
      show (runsB N).length ≤ 380000
      omega
    · split
      · have := frameB_le hN hNl
        show (frameB N).length ≤ 380000
        omega
      · split
        · cases hw : wordsB X with
          | none => exact hp
          | some b =>
            show b.length ≤ 380000
            unfold wordsB at hw
            cases ho : ofM X with
            | none => rw [ho] at hw; cases hw
            | some Wp =>
              obtain ⟨W, p⟩ := Wp
              obtain ⟨a1, a2, a3, a4⟩ := places_in ho
              obtain ⟨q, hq⟩ := putM_of ho
              have h3 := frameB_le a4 (by omega)
              rw [ho, Option.bind_some, hq] at hw
              injection hw with hw
              dsimp only at hw
              unfold putM at hq
              rw [if_pos a3] at hq
              injection hq with hq
              have b1 := numB_le9 (n := W.length) (by omega)
              have b2 := putF_len W [] (by simp) (fun x hx => (rightW_le a3).1 x hx)
              have b3 : W.length * 1042 ≤ 200 * 1042 := Nat.mul_le_mul_right _ (by omega)
              rw [← hw, List.length_append, ← hq, List.length_append]
              omega
        · split
          · cases hd : deltaB N with
            | none => exact hp
            | some b =>
              show b.length ≤ 380000
              unfold deltaB at hd
              cases hs : stepsM 0 N with
              | none => rw [hs] at hd; cases hd
              | some s =>
                rw [hs] at hd
                injection hd with hd
                dsimp only at hd
                obtain ⟨s1, s2⟩ := stepsM_len N 0 s hs
                have := steps_part s N.length hNl (by omega) s2
                rw [← hd]
                omega
          · exact hp
/-- What Put tells, when it tells something. -/
theorem cput_two (kind how : Int) (l : RowM) : (∃ E, E ≠ 0 ∧ cputM kind how l = ([], 0, E)) ∨ (kindOk kind = true ∧ howOk how = true ∧ l.all (fitV kind) = true ∧ cputM kind how l = ((colB kind how l).1, (colB kind how l).2, 0)) := by
  unfold cputM
  split
  · exact .inl ⟨1, by decide, rfl⟩
  · rename_i h
    rw [Bool.not_eq_false, Bool.and_eq_true] at h
    split
    · rename_i h2
      exact .inr ⟨h.1, h.2, h2, rfl⟩
    · exact .inl ⟨7, by decide, rfl⟩
theorem colB_le {kind how : Int} {l : RowM} (hall : l.all (fitV kind) = true) (hok : ∀ v ∈ l, v.ok) (hl : l.length ≤ 300) : (colB kind how l).1.length ≤ 500000 := by
  have hNi := nums_in (kind := kind) hok
  have hXi := texts_in hall
  have hNl : (numsK kind l).length ≤ 4096 := by
    unfold numsK numsM
    split
    · simp
    · rw [List.length_map]; exact Nat.le_trans (someM_le l) (by omega)
  have hXl : (textsK kind l).length ≤ 300 := by
    unfold textsK textsM
    split
    · rw [List.length_map]; exact Nat.le_trans (someM_le l) hl
    · simp
  have hrl := runsB_le (there_in l) (by rw [thereM_len]; omega)
  have hll := layP_le3 (kind := kind) (how := how) hNi hNl hXi hXl
  have h9 := numB_le9 (n := (runsB (thereM l)).length) (by omega)
  unfold colB
  rw [lay_parts]
  dsimp only
  rw [List.length_cons, List.length_append, List.length_append]
  omega
theorem nums_ok {l : RowM} (hok : ∀ v ∈ l, v.ok) : NumsIn l := fun v hv => (hok v hv).n
theorem ctakeM_in {kind : Int} {b : List UInt8} {l : RowM} (hk : 0 ≤ kind ∧ kind ≤ 255) (h : ctakeM kind b = some l) : l.length ≤ 4096 ∧ ∀ v ∈ l, v.ok := by
  unfold ctakeM at h
  obtain ⟨⟨th, r⟩, hs, h⟩ := Option.bind_eq_some_iff.1 h
  split at h
  · rename_i hc
    obtain ⟨⟨n, x⟩, ht, h⟩ := Option.bind_eq_some_iff.1 h
    obtain ⟨m, hj, h⟩ := Option.bind_eq_some_iff.1 h
    split at h
    · obtain rfl := Option.some.inj h
      obtain ⟨h1, -⟩ := splitM_in hs
      have h2 := takesM_in ht (Nat.le_trans (odd_le th) h1) hc
      obtain ⟨h3, h4⟩ := joinF_in kind hk th n x m hj h2.2.2.1 h2.2.2.2.1
      exact ⟨by rw [h3]; exact h1, h4⟩
    · cases h
  · cases h
/-- Take of what was put. -/
theorem ctake_put {kind how : Int} {X : RowM} (hk : kindOk kind = true) (hh : howOk how = true) (hall : X.all (fitV kind) = true) (hok : ∀ v ∈ X, v.ok) (hl : X.length ≤ 300) {w : World} {e : Ending} {w' : World} (h : CTakeOK kind (colB kind how X).1 w e w') :
    (∃ A d, e = .returned (.tuple #[.slice A X.length d, .int .u8 (colB kind how X).2, .int .i64 0]) ∧ Rd w' A (rcells X)) ∧ Below w.heap.size w w' := by
  obtain ⟨h1, h2⟩ := col_round hk hh hall (nums_ok hok) (by omega)
  obtain ⟨h | h | ⟨l, A, d, -, h3, he, hr⟩, hb⟩ := h
  · rw [hk] at h
    cases h.1
  · rw [h1] at h
    cases h.2.1
  · rw [h1] at h3
    obtain rfl := Option.some.inj h3
    rw [h2] at he
    exact ⟨⟨A, d, he, hr⟩, hb⟩
theorem CPutOK.uniB {kind how : Int} {l : RowM} {w w' : World} {e : Ending} (h : CPutOK kind how l w e w') {b : List UInt8} {u E : Int} (hb : cputM kind how l = (b, u, E)) {n : Nat} (hn : b.length = n) :
    (∃ A c, e = .returned (.tuple #[.slice A n c, .int .u8 u, .int .i64 E]) ∧ Own w' w.heap.size 5 1 A n c (Bs b)) ∧ Below w.heap.size w w' := by
  unfold CPutOK at h
  rw [hb] at h
  subst hn
  exact h
theorem rdTake9 {w : World} {A : Option Addr} {u : List UInt8} (h : Rd w A (Bs u)) (m : Nat) : Rd w A (Bs (u.take m)) := rdTake8 h m
end Go.Proofs.YtojppmnmhdgnnaaGreat
namespace Go.Proofs.YtojppmnmhdgnnaaGreat
set_option linter.unusedVariables false
set_option linter.unusedSimpArgs false
open Go.RowKit

attribute [local go_sem ↓] Go.wp_at_zero Go.wp_at_succ

theorem colB_used (kind how : Int) (l : RowM) : (colB kind how l).2 = how ∨ (colB kind how l).2 = 1 := by
  show (layM kind how l).2 = how ∨ (layM kind how l).2 = 1
  unfold layM
  split
  · exact .inr rfl
  · split
    · rename_i h; exact .inl h.symm
    · split
      · rename_i h; exact .inl h.symm
      · split
        · rename_i h
          split
          · exact .inl h.symm
          · exact .inr rfl
        · split
          · rename_i h
            split
            · exact .inl h.symm
            · exact .inr rfl
          · exact .inr rfl

end Go.Proofs.YtojppmnmhdgnnaaGreat
