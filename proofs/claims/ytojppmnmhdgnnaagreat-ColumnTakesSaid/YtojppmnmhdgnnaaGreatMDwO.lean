/- Walks: a reader that is kept; slices.Clone of bytes. -/
import Derived.Test.YtojppmnmhdgnnaaGreatMDwHJ
import Derived.Test.YtojppmnmhdgnnaaGreatMCuNT
import Derived.Deep.AppendSrc
namespace Go.Proofs.YtojppmnmhdgnnaaGreat
set_option linter.unusedVariables false
set_option linter.unusedSimpArgs false
open Go.RowKit

attribute [local go_sem ↓] Go.wp_at_zero Go.wp_at_succ

theorem Rdr.keeps {w w' : World} {p : Nat} {l : List UInt8} {bad : Bool} {T : List TypeId} {B : Nat} (h : Rdr w p l bad) (h1t : 94 ∉ T) (h2t : 5 ∉ T) (hk : Keeps T B w w') : Rdr w' p l bad := by
  obtain ⟨A, n, c, h1, h2, h3⟩ := h
  exact ⟨A, n, c, h1.keeps h1t hk, h2.keeps h2t hk, h3⟩
theorem Rdr.drewN {w : World} {p : Nat} {l : List UInt8} {bad : Bool} (h : Rdr w p l bad) (n : Nat) : Rdr (w.drewN n) p l bad := by
  obtain ⟨A, m, c, h1, h2, h3⟩ := h
  exact ⟨A, m, c, h1.drewN n, h2, h3⟩
theorem Rdr.lt {w : World} {p : Nat} {l : List UInt8} {bad : Bool} (h : Rdr w p l bad) : p < w.heap.size := by
  obtain ⟨A, m, c, h1, _⟩ := h
  exact h1.lt
theorem keeps_below {T : List TypeId} {p M : Nat} {w w' : World} (h : Keeps T p w w') (hM : M ≤ p) (hp : p ≤ w.heap.size) : Below M w w' := (h.below hp).mono hM

/-- Behind slices.Clone of bytes. -/
theorem bclone_any2 (l : List UInt8) (n c : Nat) (A : Option Addr) (w : World) (hl : l.length = n) (hr : Rd w A (Bs l)) (hn : n ≤ 1000000) (hnil : A = none → n = 0 ∧ c = 0) :
    Calls Tryz.prog 59 #[.slice A n c] w fun e w' => ∃ A' c', e = .returned (.slice A' n c') ∧ (n ≤ c' ∧ c' ≤ 9223372036854775807) ∧ Rd w' A' (Bs l) ∧ Below w.heap.size w w' := by
  have Hl := Lib.hid hl
  cases A with
  | none =>
    obtain ⟨h0, hc0⟩ := hnil rfl
    subst h0
    subst hc0
    have h1 : l = [] := List.eq_nil_of_length_eq_zero hl
    subst h1
    have hq := fun w => Lib.run_eql_slice_nil (P := Tryz.prog) w 22 5 none 0 0 0 0 Tryz.underlying22
    go_enter Tryz.func59, Tryz.ntmps59
    go_wp2_with fail
    go_ret
    exact ⟨none, 0, rfl, by omega, Rd.nil _ _, Below.refl _ _⟩
  | some ad =>
    have ho1 : Own (w.alloc (.cells #[] 5)) w.heap.size 5 1 (some ⟨w.heap.size, 0, none⟩) 0 0 [] := World.ownsRow_made w #[] 0 (Nat.le_refl _) (by unfold maxLen; omega) rfl
    have hb1 : Below w.heap.size w (w.alloc (.cells #[] 5)) := (Below.refl _ _).alloc (Nat.le_refl _) _
    have hq := fun w => Lib.run_eql_slice_nil (P := Tryz.prog) w 22 5 (some ad) n c 0 0 Tryz.underlying22
    clear hl
    go_enter Tryz.func59, Tryz.ntmps59
    go_wp2_with (first | (at_builtin; refine hold ?_) | (at_make; refine hold ?_))
    (with_reducible refine unhold ?_)
    refine wpList_apd rfl _ _ _ rfl E8 w.heap.size _ 0 _ [] rfl ho1 _ n _ (Bs l) rfl (by rw [List.length_map, Hl.out, Nat.mul_one]) (hr.below hb1) (Bs_one l) n (Nat.zero_add _) (Bs l) rfl (by omega) (by omega) hb1.size ?_
    intro A2 c2 w2 ho2 hg2 _
    have hb2 : Below w.heap.size w w2 := hb1.grown hg2 hb1.size ho1.row_ge
    have hr2 := ho2.rd
    have hcp : n ≤ c2 ∧ c2 ≤ 9223372036854775807 := by
      have := ho2.cap
      unfold maxLen at this
      omega
    clear ho1 hg2 hb1 hr ho2
    go_wp2_with fail
    go_ret
    exact ⟨A2, c2, rfl, hcp, hr2, hb2⟩
theorem bclone_any (l : List UInt8) (n c : Nat) (A : Option Addr) (w : World) (hl : l.length = n) (hr : Rd w A (Bs l)) (hn : n ≤ 1000000) (hnil : A = none → n = 0 ∧ c = 0) :
    Calls Tryz.prog 59 #[.slice A n c] w fun e w' => ∃ A' c', e = .returned (.slice A' n c') ∧ Rd w' A' (Bs l) ∧ Below w.heap.size w w' := by
  refine (bclone_any2 l n c A w hl hr hn hnil).mono ?_
  rintro e w' ⟨A', c', rfl, -, hr', hb⟩
  exact ⟨A', c', rfl, hr', hb⟩
end Go.Proofs.YtojppmnmhdgnnaaGreat
