/- PagesNil: whatever the act and the number are, the law returns true, and they read as before. No condition. -/
import Derived.Test.YtnlaeiadakdbkaaRows
import Derived.Test.YtnlaeiadakdbkaaIn
import Derived.Test.YtnlaeiadakdbkaaNilW
import Derived.WalkKit
import Derived.ProofKit
import Derived.OpenShut
import Derived.ShutString
import Derived.ChangeOld
import Derived.Below
namespace Go.Proofs.Ytnlaeiadakdbkaa.pagesNil
open Go.ChangeShapes Go.WideShapes Go.ChangeAt Go.RowKit
open Go.ChangeMaps (open_string shut_string)
set_option linter.unusedVariables false

theorem own : ownKnob Try.prog.godebug = none := by kernel_rfl
theorem laidOut : laidOutB Try.prog = true := by kernel_rfl

theorem walk (v0 v1 : Value) (w : World) (a0 : Arg Try.prog w 43 v0) (a1 : Arg Try.prog w 3 v1) :
    Calls Try.prog 7 #[v0, v1] w fun e w' => e = .returned (.bool true) ∧ Below w.heap.size w w' := by
  obtain ⟨cs, rfl, hr⟩ := a0.struct Try.underlying43
  obtain ⟨n, rfl, wn⟩ := a1.int Try.underlying3
  obtain ⟨hlen, hf⟩ := hr.cells Try.underlying43 (by kernel_rfl) (by kernel_rfl)
  match cs, hlen with
  | [c0, c1, c2, c3, c4, c5], _ =>
    obtain ⟨_, e0, f0⟩ := hf 0 _ rfl
    obtain ⟨_, e1, f1⟩ := hf 1 _ rfl
    obtain ⟨_, e2, f2⟩ := hf 2 _ rfl
    obtain ⟨_, e3, f3⟩ := hf 3 _ rfl
    obtain ⟨_, e4, f4⟩ := hf 4 _ rfl
    obtain ⟨_, e5, f5⟩ := hf 5 _ rfl
    cases e0; cases e1; cases e2; cases e3; cases e4; cases e5
    obtain ⟨kind, h0, _⟩ := f0.int Try.underlying5
    obtain ⟨at', h1, _⟩ := f1.int Try.underlying3
    obtain ⟨nn, h2, _⟩ := f2.int Try.underlying3
    obtain ⟨A, bn, bc, b, h3, hb, _, hbc, hbm⟩ := f3.bytes Try.underlying22 Try.underlying5 (by kernel_rfl)
    obtain ⟨L, ln, lc, l, h4, hl, hrl, hlc, hlm, _⟩ := f4.ints Try.underlying29 Try.underlying3 (by kernel_rfl)
    obtain ⟨mask, h5, _⟩ := f5.int Try.underlying5
    cases h0; cases h1; cases h2; cases h3; cases h4; cases h5
    unfold maxLen at hbm hlm
    have wb := wf_i64_bounds wn
    exact nil_walk kind at' nn mask A L l bn bc ln lc n w hl (by omega) (by omega) hrl (by omega)

set_option maxRecDepth 100000 in
theorem lifted (os : Os) (started : os.Started) (H : Type) (enc : TypeId × Value → H) :
    ReturnsInHanded {} Try.checked os 7 .any (Rows.pagesNilSpec.pre6 enc Try.prog Try.f7 Rows.pagesNilRow.domain false) (Rows.pagesNilSpec.post enc Try.prog Try.f7 false true false false) := by
  refine returnsInHanded_of_change (C := Try.checked) own started (by kernel_rfl) Try.func7
    (ChangeSpec.witness6 (enc := enc) (C := Try.checked) false ⟨#[], #[.agg #[.int .u8 0, .int .i64 0, .int .i64 0, .slice none 0 0, .slice none 0 0, .int .u8 0], .int .i64 0], []⟩ 8 (by kernel_rfl) (by kernel_rfl) (by kernel_rfl) (by kernel_rfl)) ?_
  intro W base args ds gs before hval0 hW hcnd _
  have hval : ∀ (j : Nat) t v, Try.f7.params[j]? = some t → args[j]? = some v → Value.okWide Try.prog W .any base t v := hval0
  have hW' := hW
  obtain ⟨p, q, hA0, hV, rfl, hfz, hnd⟩ := hW
  have hA : DataW.TrodAll enc Try.prog W 0 (fun _ => true) true Try.f7.params.toList args.toList ds p := hA0
  rw [Try.params7] at hA hval
  obtain ⟨v0, vs0, d0, ds0, p0, q0, hargs, rfl, rfl, h0, r0⟩ := trodAll_cons hA
  obtain ⟨v1, vs1, d1, ds1, p1, q1, rfl, rfl, rfl, h1, r1⟩ := trodAll_cons r0
  obtain ⟨rfl, rfl, rfl⟩ := trodAll_nil r1
  obtain rfl : args = #[v0, v1] := by cases args; simp_all
  obtain ⟨rfl, rfl⟩ := trodVars_none hV
  have k0 := h0
  have lt0 : ∀ x ∈ p0, x.block < W.heap.size := by obtain ⟨m, hm⟩ := k0; exact DataW.trod_lt m _ _ _ hm
  have a0 : Arg Try.prog W 43 v0 := Arg.mk' (hval 0 43 v0 rfl rfl) h0
  have k1 := h1
  have lt1 : ∀ x ∈ p1, x.block < W.heap.size := by obtain ⟨m, hm⟩ := k1; exact DataW.trod_lt m _ _ _ hm
  have a1 : Arg Try.prog W 3 v1 := Arg.mk' (hval 1 3 v1 rfl rfl) h1
  clear hA0 hval0
  refine (walk v0 v1 W a0 a1).mono fun e W' ⟨he, bel⟩ => ?_
  subst he
  exact ⟨_, rfl, _, _, _, [], _, [], hW', trodAll_mk1 (shut_bool Try.underlying4 _), (trodAll_cons_mk (Below.trod laidOut (by kernel_rfl) (of_decide_eq_true (by kernel_rfl)) k0 bel lt0) (trodAll_cons_mk (Below.trod laidOut (by kernel_rfl) (of_decide_eq_true (by kernel_rfl)) k1 bel lt1) trodAll_mk0)), rfl, bel.frame _, fun h => by cases h⟩

theorem over : Rows.pagesNilRow.holds Try.pinned (OpenSpec.ofChange Rows.pagesNilSpec) :=
  OpenClaim.holds_of_wide 7 Try.f7 rfl rfl rfl rfl rfl rfl rfl ⟨rfl, rfl, rfl, rfl, rfl⟩ rfl rfl rfl rfl rfl (by kernel_rfl) Try.func7 (by kernel_rfl)
    (of_decide_eq_true (by kernel_rfl)) (by unfold Func.isWrapper; first | (rw [if_pos (by decide +kernel)]; kernel_rfl) | (rw [if_neg (by decide +kernel)]; exact ⟨rfl, rfl⟩))
    (fun os started H enc _ => lifted os started H enc)

/-- The statement. -/
theorem proved : Rows.PagesNilSaid := over
#print axioms proved
end Go.Proofs.Ytnlaeiadakdbkaa.pagesNil
