/- Walks: whether a text is a pattern, and whether a text is like one. -/
import Derived.Test.YtheafcfbahdcfaaAkP
import Derived.Deep.QuietTactic
import Derived.BigQuiet
namespace Go.Proofs.Ytheafcfbahdcfaa
open Go.RowKit

attribute [local go_sem ↓] Go.wp_at_zero Go.wp_at_succ

set_option maxRecDepth 100000 in
theorem check_any (s : List UInt8) (w : World) (hs : s.length ≤ 1000000) :
    Calls Try.prog 44 #[.string (St8 s)] w fun e w' => e = .returned (.int .i64 (if (partsM s).2 = true then 0 else 30)) ∧ Below w.heap.size w w' := by
  have hp := Lib.hid (parts_any s w hs)
  by_cases hb : (partsM s).2 = true
  · rw [hb] at hp
    rw [if_pos hb]
    go_enter Try.func44, Try.ntmps44
    go_wp2_with fail
    refine hp.out.mono ?_
    rintro e w1 ⟨A, c, rfl, _, hb1⟩
    go_wp2_with fail
    go_ret
    exact ⟨rfl, hb1⟩
  · rw [Bool.not_eq_true] at hb
    rw [hb] at hp
    rw [if_neg (by rw [hb]; decide)]
    go_enter Try.func44, Try.ntmps44
    go_wp2_with fail
    refine hp.out.mono ?_
    rintro e w1 ⟨A, c, rfl, _, hb1⟩
    go_wp2_with fail
    go_ret
    exact ⟨rfl, hb1⟩

section
variable {ps : List Pt} {t : List (List UInt8)} {n i k b f : Nat} {pt : Pt}
theorem mloop_end (h : ¬ k < t.length) : mloop ps t (n + 1) i k b f = (ps.drop i).all fun p => p.kind == 37 := by
  rw [mloop, if_neg h]
theorem mloop_any (h : k < t.length) (hp : ps[i]? = some pt) (hk : pt.kind = 37) : mloop ps t (n + 1) i k b f = mloop ps t n (i + 1) k (i + 1) k := by
  rw [mloop, if_pos h, hp, if_pos (by rw [← hk]; rfl)]
theorem mloop_one (h : k < t.length) (hp : ps[i]? = some pt) (hk : ¬ pt.kind = 37) (ho : pt.kind = 95 ∨ pt = ⟨0, t.getD k []⟩) : mloop ps t (n + 1) i k b f = mloop ps t n (i + 1) (k + 1) b f := by
  rw [mloop, if_pos h, hp, if_neg (by intro e; exact hk (Option.some.inj e)), if_pos (by
    rcases ho with h | h
    · exact .inl (by rw [← h]; rfl)
    · exact .inr (by rw [h]))]
theorem mloop_back (h : k < t.length) (hn : ∀ pt, ps[i]? = some pt → ¬ pt.kind = 37 ∧ ¬ pt.kind = 95 ∧ pt ≠ ⟨0, t.getD k []⟩) : mloop ps t (n + 1) i k b f = if 0 < b then mloop ps t n b (f + 1) b (f + 1) else false := by
  rw [mloop, if_pos h]
  cases hp : ps[i]? with
  | none => rw [if_neg (by simp), if_neg (by simp)]
  | some pt =>
    obtain ⟨h1, h2, h3⟩ := hn pt hp
    rw [if_neg (by intro e; exact h1 (Option.some.inj e)), if_neg (by
      rintro (e | e)
      · exact h2 (Option.some.inj e)
      · exact h3 (Option.some.inj e))]
end
theorem meas_next {T P i k f : Nat} (h : i < P) (hf : f ≤ k) (hk : k < T) : (T - k) * (P + 1) + (P - (i + 1)) < (T - f) * (P + 1) + (P - i) := by
  have := Nat.mul_le_mul_right (P + 1) (show T - k ≤ T - f by omega)
  omega
theorem meas_back {T P i b f : Nat} (hf : f < T) : (T - (f + 1)) * (P + 1) + (P - b) < (T - f) * (P + 1) + (P - i) := by
  have : (T - f) * (P + 1) = (T - (f + 1)) * (P + 1) + (P + 1) := by rw [show T - f = (T - (f + 1)) + 1 from by omega, Nat.succ_mul]
  omega
theorem pcell0 {ps : List Pt} {i : Nat} {pt : Pt} (h : ps[i]? = some pt) : (pcells ps)[i * 2]? = some (.int .i32 pt.kind) := pcells_get ps i pt 0 h (by omega)
theorem pcell1 {ps : List Pt} {i : Nat} {pt : Pt} (h : ps[i]? = some pt) : (pcells ps)[i * 2 + 1]? = some (.string (St8 pt.letter)) := pcells_get ps i pt 1 h (by omega)

end Go.Proofs.Ytheafcfbahdcfaa
