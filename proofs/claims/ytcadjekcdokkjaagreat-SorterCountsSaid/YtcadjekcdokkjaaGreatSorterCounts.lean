/- SorterCounts: into how many runs rows are cut, and how often they are merged, is the document's. For every list of rows, every room, number of runs and number at once. -/
import Derived.Test.YtcadjekcdokkjaaGreatRows
import Derived.Test.YtcadjekcdokkjaaGreatMArIn
import Derived.Test.YtcadjekcdokkjaaGreatMJoSn
import Derived.WalkKit
import Derived.ProofKit
import Derived.OpenShut
import Derived.ShutString
import Derived.ChangeOld
import Derived.Below
namespace Go.Proofs.YtcadjekcdokkjaaGreat.sorterCounts
open Go.ChangeShapes Go.WideShapes Go.ChangeAt Go.RowKit
open Go.ChangeMaps (open_string shut_string)
set_option linter.unusedVariables false

theorem own : ownKnob Tryz.prog.godebug = none := by kernel_rfl
theorem laidOut : laidOutB Tryz.prog = true := by kernel_rfl

theorem walk (v0 v1 v2 v3 : Value) (w : World) (a0 : Arg Tryz.prog w 32 v0) (a1 : Arg Tryz.prog w 61 v1) (a2 : Arg Tryz.prog w 61 v2) (a3 : Arg Tryz.prog w 3 v3) :
    Calls Tryz.prog 7 #[v0, v1, v2, v3] w fun e w' => e = .returned (.bool true) ∧ Below w.heap.size w w' := by
  obtain ⟨A, n, c, rfl, hr⟩ := a0.slice Tryz.underlying32
  obtain ⟨hs, rs, hl, hA, hR, hnc, hc⟩ := rows_of hr
  obtain ⟨mo, rfl, w1⟩ := a1.int Tryz.underlying61
  obtain ⟨ru, rfl, w2⟩ := a2.int Tryz.underlying61
  obtain ⟨fan, rfl, w3⟩ := a3.int Tryz.underlying3
  unfold maxLen at hc
  have b1 := wf_u32_bounds w1
  have b2 := wf_u32_bounds w2
  have b3 := wf_i64_bounds w3
  obtain ⟨mo, rfl⟩ := Int.eq_ofNat_of_zero_le b1.1
  obtain ⟨ru, rfl⟩ := Int.eq_ofNat_of_zero_le b2.1
  exact counts_walk rs hs n c mo ru fan A w hl hnc (by omega) hA hR (by omega) (by omega) b3.1 b3.2

set_option maxRecDepth 100000 in
theorem lifted (os : Os) (started : os.Started) (H : Type) (enc : TypeId × Value → H) :
    ReturnsInHanded {} Tryz.checked os 7 .any (Rows.sorterCountsSpec.pre6 enc Tryz.prog Tryz.f7 Rows.sorterCountsRow.domain false) (Rows.sorterCountsSpec.post enc Tryz.prog Tryz.f7 false true false false) := by
  refine returnsInHanded_of_change (C := Tryz.checked) own started (by kernel_rfl) Tryz.func7
    (ChangeSpec.witness6 (enc := enc) (C := Tryz.checked) false ⟨#[], #[.slice none 0 0, .int .u32 0, .int .u32 0, .int .i64 0], []⟩ 8 (by kernel_rfl) (by kernel_rfl) (by kernel_rfl) (by kernel_rfl)) ?_
  intro W base args ds gs before hval0 hW hcnd _
  have hval : ∀ (j : Nat) t v, Tryz.f7.params[j]? = some t → args[j]? = some v → Value.okWide Tryz.prog W .any base t v := hval0
  have hW' := hW
  obtain ⟨p, q, hA0, hV, rfl, hfz, hnd⟩ := hW
  have hA : DataW.TrodAll enc Tryz.prog W 0 (fun _ => true) true Tryz.f7.params.toList args.toList ds p := hA0
  rw [Tryz.params7] at hA hval
  obtain ⟨v0, vs0, d0, ds0, p0, q0, hargs, rfl, rfl, h0, r0⟩ := trodAll_cons hA
  obtain ⟨v1, vs1, d1, ds1, p1, q1, rfl, rfl, rfl, h1, r1⟩ := trodAll_cons r0
  obtain ⟨v2, vs2, d2, ds2, p2, q2, rfl, rfl, rfl, h2, r2⟩ := trodAll_cons r1
  obtain ⟨v3, vs3, d3, ds3, p3, q3, rfl, rfl, rfl, h3, r3⟩ := trodAll_cons r2
  obtain ⟨rfl, rfl, rfl⟩ := trodAll_nil r3
  obtain rfl : args = #[v0, v1, v2, v3] := by cases args; simp_all
  obtain ⟨rfl, rfl⟩ := trodVars_none hV
  have k0 := h0
  have lt0 : ∀ x ∈ p0, x.block < W.heap.size := by obtain ⟨m, hm⟩ := k0; exact DataW.trod_lt m _ _ _ hm
  have a0 : Arg Tryz.prog W 32 v0 := Arg.mk' (hval 0 32 v0 rfl rfl) h0
  have k1 := h1
  have lt1 : ∀ x ∈ p1, x.block < W.heap.size := by obtain ⟨m, hm⟩ := k1; exact DataW.trod_lt m _ _ _ hm
  have a1 : Arg Tryz.prog W 61 v1 := Arg.mk' (hval 1 61 v1 rfl rfl) h1
  have k2 := h2
  have lt2 : ∀ x ∈ p2, x.block < W.heap.size := by obtain ⟨m, hm⟩ := k2; exact DataW.trod_lt m _ _ _ hm
  have a2 : Arg Tryz.prog W 61 v2 := Arg.mk' (hval 2 61 v2 rfl rfl) h2
  have k3 := h3
  have lt3 : ∀ x ∈ p3, x.block < W.heap.size := by obtain ⟨m, hm⟩ := k3; exact DataW.trod_lt m _ _ _ hm
  have a3 : Arg Tryz.prog W 3 v3 := Arg.mk' (hval 3 3 v3 rfl rfl) h3
  clear hA0 hval0
  refine (walk v0 v1 v2 v3 W a0 a1 a2 a3).mono fun e W' ⟨he, bel⟩ => ?_
  subst he
  exact ⟨_, rfl, _, _, _, [], _, [], hW', trodAll_mk1 (shut_bool Tryz.underlying4 _), (trodAll_cons_mk (Below.trod laidOut (by kernel_rfl) (of_decide_eq_true (by kernel_rfl)) k0 bel lt0) (trodAll_cons_mk (Below.trod laidOut (by kernel_rfl) (of_decide_eq_true (by kernel_rfl)) k1 bel lt1) (trodAll_cons_mk (Below.trod laidOut (by kernel_rfl) (of_decide_eq_true (by kernel_rfl)) k2 bel lt2) (trodAll_cons_mk (Below.trod laidOut (by kernel_rfl) (of_decide_eq_true (by kernel_rfl)) k3 bel lt3) trodAll_mk0)))), rfl, bel.frame _, fun h => by cases h⟩

theorem over : Rows.sorterCountsRow.holds Tryz.pinned (OpenSpec.ofChange Rows.sorterCountsSpec) :=
  OpenClaim.holds_of_wide 7 Tryz.f7 rfl rfl rfl rfl rfl rfl rfl ⟨rfl, rfl, rfl, rfl, rfl⟩ rfl rfl rfl rfl rfl (by kernel_rfl) Tryz.func7 (by kernel_rfl)
    (of_decide_eq_true (by kernel_rfl)) (by unfold Func.isWrapper; first | (rw [if_pos (by decide +kernel)]; kernel_rfl) | (rw [if_neg (by decide +kernel)]; exact ⟨rfl, rfl⟩))
    (fun os started H enc _ => lifted os started H enc)

/-- The statement. -/
theorem proved : Rows.SorterCountsSaid := over
#print axioms proved
end Go.Proofs.YtcadjekcdokkjaaGreat.sorterCounts
