/- SorterSpoilt: when pages are spoilt that others hold, what is sorted is sorted. For every list of rows and keys, every page, byte and mask. -/
import Derived.Test.YtcadjekcdokkjaaGreatRows
import Derived.Test.YtcadjekcdokkjaaGreatMArIn
import Derived.Test.YtcadjekcdokkjaaGreatMSnJ
import Derived.WalkKit
import Derived.ProofKit
import Derived.OpenShut
import Derived.ShutString
import Derived.ChangeOld
import Derived.Below
namespace Go.Proofs.YtcadjekcdokkjaaGreat.sorterSpoilt
open Go.ChangeShapes Go.WideShapes Go.ChangeAt Go.RowKit
open Go.ChangeMaps (open_string shut_string)
set_option linter.unusedVariables false

theorem own : ownKnob Tryz.prog.godebug = none := by kernel_rfl
theorem laidOut : laidOutB Tryz.prog = true := by kernel_rfl

theorem walk (v0 v1 v2 v3 v4 : Value) (w : World) (a0 : Arg Tryz.prog w 32 v0) (a1 : Arg Tryz.prog w 41 v1) (a2 : Arg Tryz.prog w 5 v2) (a3 : Arg Tryz.prog w 5 v3) (a4 : Arg Tryz.prog w 5 v4) :
    Calls Tryz.prog 8 #[v0, v1, v2, v3, v4] w fun e w' => e = .returned (.bool true) ∧ Below w.heap.size w w' := by
  obtain ⟨A, n, c, rfl, hr⟩ := a0.slice Tryz.underlying32
  obtain ⟨hs, rs, hl, hA, hR, hnc, hc⟩ := rows_of hr
  obtain ⟨KA, kn, kc, rfl, hk⟩ := a1.slice Tryz.underlying41
  obtain ⟨ks, hkl, hK, hknc, hkc⟩ := keys_of hk
  obtain ⟨wh, rfl, w2⟩ := a2.int Tryz.underlying5
  obtain ⟨at_, rfl, w3⟩ := a3.int Tryz.underlying5
  obtain ⟨ma, rfl, w4⟩ := a4.int Tryz.underlying5
  unfold maxLen at hc hkc
  have b2 := wf_u8_bounds w2
  have b3 := wf_u8_bounds w3
  have b4 := wf_u8_bounds w4
  obtain ⟨wh, rfl⟩ := Int.eq_ofNat_of_zero_le b2.1
  obtain ⟨at_, rfl⟩ := Int.eq_ofNat_of_zero_le b3.1
  obtain ⟨ma, rfl⟩ := Int.eq_ofNat_of_zero_le b4.1
  exact spoiltS_walk rs hs n c A ks kn kc KA wh at_ ma w hl hnc (by omega) hA hR hkl hknc (by omega) hK (by omega) (by omega) (by omega)

set_option maxRecDepth 100000 in
theorem lifted (os : Os) (started : os.Started) (H : Type) (enc : TypeId × Value → H) :
    ReturnsInHanded {} Tryz.checked os 8 .any (Rows.sorterSpoiltSpec.pre6 enc Tryz.prog Tryz.f8 Rows.sorterSpoiltRow.domain false) (Rows.sorterSpoiltSpec.post enc Tryz.prog Tryz.f8 false true false false) := by
  refine returnsInHanded_of_change (C := Tryz.checked) own started (by kernel_rfl) Tryz.func8
    (ChangeSpec.witness6 (enc := enc) (C := Tryz.checked) false ⟨#[], #[.slice none 0 0, .slice none 0 0, .int .u8 0, .int .u8 0, .int .u8 0], []⟩ 8 (by kernel_rfl) (by kernel_rfl) (by kernel_rfl) (by kernel_rfl)) ?_
  intro W base args ds gs before hval0 hW hcnd _
  have hval : ∀ (j : Nat) t v, Tryz.f8.params[j]? = some t → args[j]? = some v → Value.okWide Tryz.prog W .any base t v := hval0
  have hW' := hW
  obtain ⟨p, q, hA0, hV, rfl, hfz, hnd⟩ := hW
  have hA : DataW.TrodAll enc Tryz.prog W 0 (fun _ => true) true Tryz.f8.params.toList args.toList ds p := hA0
  rw [Tryz.params8] at hA hval
  obtain ⟨v0, vs0, d0, ds0, p0, q0, hargs, rfl, rfl, h0, r0⟩ := trodAll_cons hA
  obtain ⟨v1, vs1, d1, ds1, p1, q1, rfl, rfl, rfl, h1, r1⟩ := trodAll_cons r0
  obtain ⟨v2, vs2, d2, ds2, p2, q2, rfl, rfl, rfl, h2, r2⟩ := trodAll_cons r1
  obtain ⟨v3, vs3, d3, ds3, p3, q3, rfl, rfl, rfl, h3, r3⟩ := trodAll_cons r2
  obtain ⟨v4, vs4, d4, ds4, p4, q4, rfl, rfl, rfl, h4, r4⟩ := trodAll_cons r3
  obtain ⟨rfl, rfl, rfl⟩ := trodAll_nil r4
  obtain rfl : args = #[v0, v1, v2, v3, v4] := by cases args; simp_all
  obtain ⟨rfl, rfl⟩ := trodVars_none hV
  have k0 := h0
  have lt0 : ∀ x ∈ p0, x.block < W.heap.size := by obtain ⟨m, hm⟩ := k0; exact DataW.trod_lt m _ _ _ hm
  have a0 : Arg Tryz.prog W 32 v0 := Arg.mk' (hval 0 32 v0 rfl rfl) h0
  have k1 := h1
  have lt1 : ∀ x ∈ p1, x.block < W.heap.size := by obtain ⟨m, hm⟩ := k1; exact DataW.trod_lt m _ _ _ hm
  have a1 : Arg Tryz.prog W 41 v1 := Arg.mk' (hval 1 41 v1 rfl rfl) h1
  have k2 := h2
  have lt2 : ∀ x ∈ p2, x.block < W.heap.size := by obtain ⟨m, hm⟩ := k2; exact DataW.trod_lt m _ _ _ hm
  have a2 : Arg Tryz.prog W 5 v2 := Arg.mk' (hval 2 5 v2 rfl rfl) h2
  have k3 := h3
  have lt3 : ∀ x ∈ p3, x.block < W.heap.size := by obtain ⟨m, hm⟩ := k3; exact DataW.trod_lt m _ _ _ hm
  have a3 : Arg Tryz.prog W 5 v3 := Arg.mk' (hval 3 5 v3 rfl rfl) h3
  have k4 := h4
  have lt4 : ∀ x ∈ p4, x.block < W.heap.size := by obtain ⟨m, hm⟩ := k4; exact DataW.trod_lt m _ _ _ hm
  have a4 : Arg Tryz.prog W 5 v4 := Arg.mk' (hval 4 5 v4 rfl rfl) h4
  clear hA0 hval0
  refine (walk v0 v1 v2 v3 v4 W a0 a1 a2 a3 a4).mono fun e W' ⟨he, bel⟩ => ?_
  subst he
  exact ⟨_, rfl, _, _, _, [], _, [], hW', trodAll_mk1 (shut_bool Tryz.underlying4 _), (trodAll_cons_mk (Below.trod laidOut (by kernel_rfl) (of_decide_eq_true (by kernel_rfl)) k0 bel lt0) (trodAll_cons_mk (Below.trod laidOut (by kernel_rfl) (of_decide_eq_true (by kernel_rfl)) k1 bel lt1) (trodAll_cons_mk (Below.trod laidOut (by kernel_rfl) (of_decide_eq_true (by kernel_rfl)) k2 bel lt2) (trodAll_cons_mk (Below.trod laidOut (by kernel_rfl) (of_decide_eq_true (by kernel_rfl)) k3 bel lt3) (trodAll_cons_mk (Below.trod laidOut (by kernel_rfl) (of_decide_eq_true (by kernel_rfl)) k4 bel lt4) trodAll_mk0))))), rfl, bel.frame _, fun h => by cases h⟩

theorem over : Rows.sorterSpoiltRow.holds Tryz.pinned (OpenSpec.ofChange Rows.sorterSpoiltSpec) :=
  OpenClaim.holds_of_wide 8 Tryz.f8 rfl rfl rfl rfl rfl rfl rfl ⟨rfl, rfl, rfl, rfl, rfl⟩ rfl rfl rfl rfl rfl (by kernel_rfl) Tryz.func8 (by kernel_rfl)
    (of_decide_eq_true (by kernel_rfl)) (by unfold Func.isWrapper; first | (rw [if_pos (by decide +kernel)]; kernel_rfl) | (rw [if_neg (by decide +kernel)]; exact ⟨rfl, rfl⟩))
    (fun os started H enc _ => lifted os started H enc)

/-- The statement. -/
theorem proved : Rows.SorterSpoiltSaid := over
#print axioms proved
end Go.Proofs.YtcadjekcdokkjaaGreat.sorterSpoilt
