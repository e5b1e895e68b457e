/- The walks of a reader's Int and Text, and of cell.Take. -/
import Derived.Test.YtphoccjeakdkeaaCuN
import Derived.Test.YtphoccjeakdkeaaOcR
import Derived.Test.YtphoccjeakdkeaaStr
import Derived.Laws.DeepNot64
namespace Go.Proofs.Ytphoccjeakdkeaa
open Go.RowKit

attribute [local go_sem ↓] Go.wp_at_zero Go.wp_at_succ

theorem i64_xor_not (a : Nat) (ha : a < 9223372036854775808) : bits .xor .i64 (a : Int) (-1) = -1 - (a : Int) := by
  have h := i64_not a ha
  change IntKind.i64.wrap ((BitVec.ofInt 64 (-1) ^^^ BitVec.ofInt 64 (a : Int)).toNat : Int) = _ at h
  show IntKind.i64.wrap ((BitVec.ofInt 64 (a : Int) ^^^ BitVec.ofInt 64 (-1)).toNat : Int) = _
  rw [BitVec.xor_comm]
  exact h
theorem i64_xor_zero (a : Nat) (ha : a < 9223372036854775808) : bits .xor .i64 (a : Int) 0 = (a : Int) := by
  show IntKind.i64.wrap ((BitVec.ofInt 64 (a : Int) ^^^ BitVec.ofInt 64 0).toNat : Int) = _
  have h1 : BitVec.ofInt 64 0 = 0#64 := by decide
  rw [h1, BitVec.xor_zero, ofInt_u64 a (by omega), IntKind.wrap_i64]
  omega

/-- How Int ends. -/
def IntOK (p : Nat) (l : List UInt8) (bad : Bool) (w : World) (e : Ending) (w' : World) : Prop :=
  ((takeNum l = none ∧ e = .returned (.int .i64 0) ∧ RdrBad w' p) ∨ ∃ m u, takeNum l = some (m, u) ∧ e = .returned (.int .i64 (unzig m)) ∧ Rdr w' p u bad) ∧ Keeps RdT p w w'
theorem rdTake8 {w : World} {A : Option Addr} {u : List UInt8} (h : Rd w A (Bs u)) (m : Nat) : Rd w A (Bs (u.take m)) := by
  intro hn
  obtain ⟨b, o, e, hr⟩ := h (fun h0 => hn (by have e : u = [] := (by simpa using h0); rw [e]; simp))
  have := Rd.part hr 0 m
  rw [List.drop_zero, Nat.add_zero, ← List.map_take] at this
  exact ⟨b, o, e, this⟩
/-- How Text ends. -/
def TextOK (p : Nat) (l : List UInt8) (bad : Bool) (w : World) (e : Ending) (w' : World) : Prop :=
  ((takeText l = none ∧ e = .returned (.string (St8 [])) ∧ RdrBad w' p) ∨ ∃ s u, takeText l = some (s, u) ∧ e = .returned (.string (St8 s)) ∧ Rdr w' p u bad) ∧ Keeps RdT p w w'
set_option maxHeartbeats 4000000 in
set_option maxRecDepth 100000 in
theorem rdr_text (p : Nat) (l : List UInt8) (bad : Bool) (w : World) (h : Rdr w p l bad) : Calls Try.prog 48 #[.pointer (some ⟨p, 0, none⟩)] w fun e w' => TextOK p l bad w e w' := by
  have hn := Lib.hid (rdr_num p l bad w h)
  clear h
  have htt : Hid (takeText l = match takeNum l with | none => none | some (m, u) => if 1024 < m ∨ u.length < m then none else some (u.take m, u.drop m)) := rfl
  go_enter Try.func48, Try.ntmps48
  go_wp2_with fail
  refine hn.out.mono ?_
  rintro e w1 ⟨⟨ht, rfl, hr⟩ | ⟨m, u, ht, rfl, hr⟩, hk⟩
  · have Ht : Hid (takeText l = none) := by show _ = _; rw [htt.out, ht]
    have k0 := hr.cell 0
    have f0 := hr.frozen 0
    have h2 := hr.set_ 0 (.slice none 0 0)
    simp only [List.getElem?_cons_zero, List.set_cons_zero] at k0 h2
    have hk2 := hk.setCell hr (i := 0) (by simp) (Nat.le_refl _) (.slice none 0 0)
    have hcv := run_str w1 none [] 0 0 rfl (Rd.nil _ _)
    have H2 := Lib.hid h2
    have Hk2 := Lib.hid hk2
    clear ht hr h2 hk hk2 htt
    go_wp2_with fail
    go_ret
    exact ⟨.inl ⟨Ht.out, rfl, H2.out⟩, Hk2.out⟩
  · have hm := (takeNum_lt ht).1
    have Hr := Lib.hid hr
    have Hk := Lib.hid hk
    obtain ⟨A, n, c, h1, h2, hl, hnc, hc, hA⟩ := hr
    have k0 := h1.cell 0
    have f0 := h1.frozen 0
    simp only [List.getElem?_cons_zero] at k0
    have hw : IntKind.u64.wrap (n : Int) = (n : Int) := by rw [IntKind.wrap_u64]; omega
    by_cases hbad : 1024 < m ∨ n < m
    · have Ht : Hid (takeText l = none) := by show _ = _; rw [htt.out, ht]; dsimp only; rw [if_pos (by rw [hl]; exact hbad)]
      have hf := Lib.hid (rdr_fail p u bad w1 Hr.out)
      clear ht htt h1 h2 hl hk
      by_cases h10 : 1024 < m
      · go_wp2_with fail
        refine hf.out.mono ?_
        rintro e w2 ⟨rfl, hr2, hk2⟩
        go_wp2_with fail
        go_ret
        exact ⟨.inl ⟨Ht.out, rfl, hr2⟩, Hk.out.trans hk2⟩
      · have hnm : n < m := by omega
        clear hbad
        go_wp2_with fail
        refine hf.out.mono ?_
        rintro e w2 ⟨rfl, hr2, hk2⟩
        go_wp2_with fail
        go_ret
        exact ⟨.inl ⟨Ht.out, rfl, hr2⟩, Hk.out.trans hk2⟩
    · have Ht : Hid (takeText l = some (u.take m, u.drop m)) := by show _ = _; rw [htt.out, ht]; dsimp only; rw [if_neg (by rw [hl]; exact hbad)]
      have hm1 : ¬ 1024 < m := by omega
      have hm2 : ¬ n < m := by omega
      have hmn : m ≤ n := by omega
      have hmc : m ≤ c := by omega
      have hml : (u.take m).length = m := by rw [List.length_take]; omega
      clear ht htt hbad
      rcases hA with ⟨rfl, rfl⟩ | ⟨b, o, rfl⟩
      · obtain rfl : n = 0 := by omega
        obtain rfl : m = 0 := by omega
        have hu0 : u = [] := List.eq_nil_of_length_eq_zero hl
        subst hu0
        have hcv := run_str w1 none [] 0 0 rfl (Rd.nil _ _)
        have h3 := h1.set_ 0 (.slice none 0 0)
        simp only [List.set_cons_zero] at h3
        have hk3 := hk.setCell h1 (i := 0) (by simp) (Nat.le_refl _) (.slice none 0 0)
        have H3 := Lib.hid h3
        have Hk3 := Lib.hid hk3
        clear h1 h2 h3 hk hk3 hl
        go_wp2_with fail
        go_ret
        exact ⟨.inr ⟨[], [], Ht.out, rfl, ⟨none, 0, 0, H3.out, OwnX.nil _ _ _, rfl, Nat.le_refl _, by omega, .inl ⟨rfl, rfl⟩⟩⟩, Hk3.out⟩
      · have hcv := run_str w1 (some ⟨b, o, none⟩) (u.take m) m c hml (by have := rdTake8 h2.rd m; exact this)
        by_cases hcm : m = c
        · have hs := Rdr.skip h1 h2 hl hnc hc (k := m) hmn (some ⟨b, o, none⟩) (by rw [if_pos hcm])
          subst hcm
          obtain rfl : n = m := by omega
          rw [Nat.sub_self] at hs
          have Hs := Lib.hid hs
          clear h1 h2 hl hs hk
          go_wp2_with fail
          go_ret
          exact ⟨.inr ⟨_, _, Ht.out, rfl, Hs.out.1⟩, Hk.out.trans Hs.out.2⟩
        · have hs := Rdr.skip h1 h2 hl hnc hc (k := m) hmn (some ⟨b, o + m, none⟩) (by rw [if_neg hcm])
          have Hs := Lib.hid hs
          clear h1 h2 hl hs hk
          go_wp2_with fail
          go_ret
          exact ⟨.inr ⟨_, _, Ht.out, rfl, Hs.out.1⟩, Hk.out.trans Hs.out.2⟩
end Go.Proofs.Ytphoccjeakdkeaa
