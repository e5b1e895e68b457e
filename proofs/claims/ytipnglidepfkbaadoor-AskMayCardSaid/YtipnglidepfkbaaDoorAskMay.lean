/- What may come of rows, by what is known of each column, is the document's. -/
import Derived.Test.YtipnglidepfkbaaDoorRows
import Derived.Test.YtipnglidepfkbaaDoorMGrH
import Derived.Test.YtipnglidepfkbaaDoorMMyY
import Derived.Test.YtipnglidepfkbaaDoorMGrU
import Derived.Test.YtipnglidepfkbaaDoorMGrU
import Derived.WalkKit
import Derived.ProofKit
import Derived.OpenShut
import Derived.ShutString
import Derived.ChangeOld
import Derived.Below
import Derived.Test.YtipnglidepfkbaaDoorTie
import Derived.Test.YtipnglidepfkbaaDoorCards
import Derived.LaidMore
import Derived.Lay
import Derived.SevenTiedAt
import Derived.Stop.Joined
import Derived.PinnedBridge
import Derived.Lib.LaidU8T
namespace Go.Proofs.YtipnglidepfkbaaDoor.askMay
open Go.ChangeShapes Go.WideShapes Go.ChangeAt Go.RowKit
open Go.ChangeMaps (open_string shut_string)
set_option linter.unusedVariables false

theorem own : ownKnob Tryd.prog.godebug = none := by kernel_rfl
theorem laidOut : laidOutB Tryd.prog = true := by kernel_rfl

theorem walk (v0 v1 v2 : Value) (w : World) (hL : laidMet Tryd.prog Rows.askMayRow.laid w) (a0 : Arg Tryd.prog w 22 v0) (a1 : Arg Tryd.prog w 23 v1) (a2 : Arg Tryd.prog w 24 v2) :
    Calls Tryd.prog 4 #[v0, v1, v2] w fun e w' => e = .returned (.bool true) ∧ Below w.heap.size w w' := by
  obtain ⟨K, kn, kc, rfl, h0⟩ := a0.slice Tryd.underlying22
  obtain ⟨K', kn', kc', kinds, e0, hkl, hK, hkn, hkm, hkw⟩ := h0.ints Tryd.underlying22 Tryd.underlying5 (by kernel_rfl)
  cases e0
  obtain ⟨L, n, c, rfl, h1⟩ := a1.slice Tryd.underlying23
  obtain ⟨l, hl, hLr, _, hnc, hcm⟩ := nodes_of h1
  obtain ⟨X, m, d, rfl, h2⟩ := a2.slice Tryd.underlying24
  obtain ⟨hs, rs, hm, hX, hR, hmd, hdm⟩ := rows_of h2
  have hT : Lib.Utf8Tabs 0 1 w := by
    refine utf8Tabs_of_readsT (U8Types.of260 Tryd.lays260) ⟨by kernel_rfl, by kernel_rfl, by kernel_rfl, by kernel_rfl, by kernel_rfl, by kernel_rfl, by kernel_rfl⟩ ?_ ?_
    · have h := Lib.laidMet.reads hL (.tail _ (.head _))
      rw [show Rows.laid_unicode_utf8_first = Lib.firstData from Pinned.utf8First_eq] at h
      exact h
    · have h := Lib.laidMet.reads hL (.head _)
      rw [show Rows.laid_unicode_utf8_acceptRanges = Lib.acceptData by kernel_rfl] at h
      exact h
  unfold maxLen at hkm hcm hdm
  exact may_walk kinds l rs hs K L X kn kc n c m d w hkl hl hm hK hLr hX hR (by omega) (by omega) (by omega) hmd (by omega) hT

set_option maxRecDepth 100000 in
theorem lifted (os : Os) (started : os.Started) (H : Type) (enc : TypeId × Value → H) :
    ReturnsInHanded {} Tryd.checked os 4 .any (fun w args => (Rows.askMaySpec.pre enc Tryd.prog Tryd.f4 Rows.askMayRow.domain false w args ∧ laidMetH Tryd.prog Rows.askMayRow.laid w) ∧ sizedMet enc Tryd.prog Tryd.f4 (OpenSpec.ofChange Rows.askMaySpec) false w args) (Rows.askMaySpec.post enc Tryd.prog Tryd.f4 false true false false) := by
  refine returnsInHanded_of_change_and (C := Tryd.checked) (X := fun w _ => laidMetH Tryd.prog Rows.askMayRow.laid w) (fun _ _ _ hh h => h.of_heap hh) own started (by kernel_rfl) Tryd.func4
    (ChangeSpec.witness_shaped (enc := enc) (C := Tryd.checked) (os := os) (X := fun w _ => laidMetH Tryd.prog Rows.askMayRow.laid w) false (World.laidAll Tryd.prog os Rows.askMayRow.laid) #[.slice none 0 0, .slice none 0 0, .slice none 0 0] 8 (World.laidAll_os _ _ _)
      (World.shaped_of_ZipB (by kernel_rfl) (by kernel_rfl)) (by kernel_rfl) (by kernel_rfl) (by kernel_rfl)
      (by rw [MakeChecks.laidMetH_plain _ _ _ (by kernel_rfl)]; exact laidMet_laidAll _ (by kernel_rfl) (by kernel_rfl))) ?_
  intro W base args ds gs before hval0 hW hcnd _ hLh _
  have hL : laidMet Tryd.prog Rows.askMayRow.laid W := by
    rw [MakeChecks.laidMetH_plain _ _ _ (by kernel_rfl)] at hLh
    exact hLh
  have hval : ∀ (j : Nat) t v, Tryd.f4.params[j]? = some t → args[j]? = some v → Value.okWide Tryd.prog W .any base t v := hval0
  have hW' := hW
  obtain ⟨p, q, hA0, hV, rfl, hfz, hnd⟩ := hW
  have hA : DataW.TrodAll enc Tryd.prog W 0 (fun _ => true) true Tryd.f4.params.toList args.toList ds p := hA0
  rw [Tryd.params4] at hA hval
  obtain ⟨v0, vs0, d0, ds0, p0, q0, hargs, rfl, rfl, h0, r0⟩ := trodAll_cons hA
  obtain ⟨v1, vs1, d1, ds1, p1, q1, rfl, rfl, rfl, h1, r1⟩ := trodAll_cons r0
  obtain ⟨v2, vs2, d2, ds2, p2, q2, rfl, rfl, rfl, h2, r2⟩ := trodAll_cons r1
  obtain ⟨rfl, rfl, rfl⟩ := trodAll_nil r2
  obtain rfl : args = #[v0, v1, v2] := by cases args; simp_all
  obtain ⟨rfl, rfl⟩ := trodVars_none hV
  have k0 := h0
  have lt0 : ∀ x ∈ p0, x.block < W.heap.size := by obtain ⟨m, hm⟩ := k0; exact DataW.trod_lt m _ _ _ hm
  have a0 : Arg Tryd.prog W 22 v0 := Arg.mk' (hval 0 22 v0 rfl rfl) h0
  have k1 := h1
  have lt1 : ∀ x ∈ p1, x.block < W.heap.size := by obtain ⟨m, hm⟩ := k1; exact DataW.trod_lt m _ _ _ hm
  have a1 : Arg Tryd.prog W 23 v1 := Arg.mk' (hval 1 23 v1 rfl rfl) h1
  have k2 := h2
  have lt2 : ∀ x ∈ p2, x.block < W.heap.size := by obtain ⟨m, hm⟩ := k2; exact DataW.trod_lt m _ _ _ hm
  have a2 : Arg Tryd.prog W 24 v2 := Arg.mk' (hval 2 24 v2 rfl rfl) h2
  clear hA0 hval0
  refine (walk v0 v1 v2 W hL a0 a1 a2).mono fun e W' ⟨he, bel⟩ => ?_
  subst he
  exact ⟨_, rfl, _, _, _, [], _, [], hW', trodAll_mk1 (shut_bool Tryd.underlying4 _), (trodAll_cons_mk (Below.trod laidOut (by kernel_rfl) (of_decide_eq_true (by kernel_rfl)) k0 bel lt0) (trodAll_cons_mk (Below.trod laidOut (by kernel_rfl) (of_decide_eq_true (by kernel_rfl)) k1 bel lt1) (trodAll_cons_mk (Below.trod laidOut (by kernel_rfl) (of_decide_eq_true (by kernel_rfl)) k2 bel lt2) trodAll_mk0))), rfl, bel.frame _, fun h => by cases h⟩

theorem over : Rows.askMayRow.holds Tryd.pinned (OpenSpec.ofChange Rows.askMaySpec) :=
  OpenClaim.holds_of_wide 4 Tryd.f4 rfl rfl rfl rfl rfl rfl rfl ⟨rfl, rfl, rfl, rfl, rfl⟩ rfl rfl rfl rfl rfl (by kernel_rfl) Tryd.func4 (by kernel_rfl)
    (of_decide_eq_true (by kernel_rfl)) (by unfold Func.isWrapper; first | (rw [if_pos (by decide +kernel)]; kernel_rfl) | (rw [if_neg (by decide +kernel)]; exact ⟨rfl, rfl⟩))
    (fun os started H enc _ => lifted os started H enc)

theorem row : Rows.AskMaySaid := over
/-- The statement: the tied card. -/
theorem proved : Rows.AskMayCardSaid :=
  Claim7.holds_tied_plain_at .later [] Rows.askMayCard.laidKinds true Rows.askMayCard.stood.harness true row (fun _ h => by cases h) (by kernel_rfl) (fun _ h => by cases h) askMay_row_tie rfl ⟨rfl, rfl⟩ (by kernel_rfl) rfl
    (fun f fn hf hfn => by
      obtain rfl : f = 4 := Option.some.inj ((show Tryd.prog.funcNamed Rows.askMayRow.func = some 4 by kernel_rfl).symm.trans hf) |>.symm
      obtain rfl : fn = Tryd.f4 := (Option.some.inj (Tryd.func4.symm.trans hfn)).symm
      exact ⟨by kernel_rfl, fun j t ht => by
        rw [Tryd.params4] at ht
        have hm : t ∈ [22, 23, 24] := by simpa using Array.mem_of_getElem? ht
        have hall : ([22, 23, 24].all fun u => !Tryd.prog.wantsStandIn u) = true := by kernel_rfl
        exact (show Tryd.prog.wantsStandIn t = false by simpa using List.all_eq_true.1 hall t hm)⟩)
    (by kernel_rfl)
#print axioms proved
end Go.Proofs.YtipnglidepfkbaaDoor.askMay
