/- A query that may be asked may be asked of more tables, too, and tells and needs the same: whatever the tables, of a bulk of 1048576 at most, and the query. -/
import Derived.Test.YtheafcfbahdcfaaRows
import Derived.Test.YtheafcfbahdcfaaIn
import Derived.Test.YtheafcfbahdcfaaQzM
import Derived.Test.YtheafcfbahdcfaaQyH
import Derived.WalkKit
import Derived.ProofKit
import Derived.OpenShut
import Derived.ShutString
import Derived.ChangeOld
import Derived.Below
import Derived.JoinedCond
namespace Go.Proofs.Ytheafcfbahdcfaa.queryMore
open Go.ChangeShapes Go.WideShapes Go.ChangeAt Go.RowKit
open Go.ChangeMaps (open_string shut_string)
set_option linter.unusedVariables false

theorem own : ownKnob Try.prog.godebug = none := by kernel_rfl
theorem laidOut : laidOutB Try.prog = true := by kernel_rfl
theorem weight_pos {H : Type} (d : DataW H) : 0 < Rows.uptoBulk d := by
  match d with
  | .lit (.string _) => simp only [Rows.uptoBulk]; omega
  | .lit (.int _ _) => simp only [Rows.uptoBulk]; omega
  | .lit (.bool _) => simp only [Rows.uptoBulk]; omega
  | .lit l => cases l <;> simp [Rows.uptoBulk]
  | .nil => simp only [Rows.uptoBulk]; omega
  | .ptr _ => simp only [Rows.uptoBulk]; omega
  | .slice _ _ => simp only [Rows.uptoBulk]; omega
  | .agg _ => simp only [Rows.uptoBulk]; omega
  | .iface _ _ => simp only [Rows.uptoBulk]; omega
  | .map _ => simp only [Rows.uptoBulk]; omega
  | .held _ => simp only [Rows.uptoBulk]; omega
theorem many {H : Type} : ∀ l : List (DataW H), l.length ≤ Rows.uptoBulkAll l
  | [] => Nat.zero_le _
  | d :: l => by
    have h1 := weight_pos d
    have h2 := many l
    rw [List.length_cons]
    simp only [Rows.uptoBulkAll]
    omega
theorem slice_weight {H : Type} {enc : TypeId × Value → H} {P : Program} {W : World} {t e : TypeId} {X : Option Addr} {n c : Nat} {d : DataW H} {p : List MemPlace} (ht : P.underlying t = some (.slice e)) (h : DataW.Trod enc P W 0 (fun _ => true) true t (.slice X n c) d p) : n ≤ Rows.uptoBulk d := by
  obtain ⟨m, hm⟩ := h
  rcases DataW.trod_slice ht hm with ⟨hcs, _⟩ | ⟨a, len, cap, elems, rest, _, _, hcs, hx, _, _, _, hl, _⟩
  · cases hcs
    exact Nat.zero_le _
  · cases hcs
    have hd : d = .slice (elems.map (·.1)) (rest.map (·.1)) := congrArg Prod.fst hx
    have h1 := many (elems.map (·.1))
    rw [List.length_map, hl] at h1
    rw [hd]
    simp only [Rows.uptoBulk]
    omega

theorem walk (v0 v1 v2 : Value) (w : World) (a0 : Arg Try.prog w 22 v0) (a1 : Arg Try.prog w 22 v1) (a2 : Arg Try.prog w 29 v2) (b0 : ∀ X n c, v0 = .slice X n c → n ≤ 1048576) (b1 : ∀ X n c, v1 = .slice X n c → n ≤ 1048576) :
    Calls Try.prog 3 #[v0, v1, v2] w fun e w' => e = .returned (.bool true) ∧ Below w.heap.size w w' := by
  obtain ⟨L, n, c, rfl, hr⟩ := a0.slice Try.underlying22
  obtain ⟨l, hl, hL, hnc, hcm⟩ := tables_of hr
  obtain ⟨M, mn, mc, rfl, hr'⟩ := a1.slice Try.underlying22
  obtain ⟨ml, hml, hM, _, _⟩ := tables_of hr'
  obtain ⟨q, x1, n1, c1, x2, n2, c2, x3, n3, c3, x4, n4, c4, x5, n5, c5, x6, n6, c6, rfl, hq, h3, h3'⟩ := query_of a2
  exact more_walk l ml L n c M mn mc q x1 n1 c1 x2 n2 c2 x3 n3 c3 x4 n4 c4 x5 n5 c5 x6 n6 c6 w hl hL hml hM (b0 _ _ _ rfl) (b1 _ _ _ rfl) hq ⟨h3, h3'⟩

set_option maxRecDepth 100000 in
theorem contract (H : Type) (enc : TypeId × Value → H) (W : World) (base : Nat) (args : Array Value) (ds gs : List (DataW H)) (before : List MemPlace)
    (hval0 : ∀ (j : Nat) t v, Try.f3.params[j]? = some t → args[j]? = some v → Value.okWide Try.prog W .any base t v)
    (hW : DataW.Whole enc Try.prog Try.f3.params.toList Rows.queryMoreSpec.vars false W args.toList ds gs before) (hk : Rows.uptoSmall H (ds ++ gs) = true) :
    Calls Try.prog 3 args W fun e W' => ∃ v, e = .returned v ∧ Rows.queryMoreSpec.post enc Try.prog Try.f3 false true false false W args v W' := by
  have hval := hval0
  have hW' := hW
  obtain ⟨p, q, hA0, hV, rfl, hfz, hnd⟩ := hW
  have hA : DataW.TrodAll enc Try.prog W 0 (fun _ => true) true Try.f3.params.toList args.toList ds p := hA0
  rw [Try.params3] at hA hval
  obtain ⟨v0, vs0, d0, ds0, p0, q0, hargs, rfl, rfl, h0, r0⟩ := trodAll_cons hA
  obtain ⟨v1, vs1, d1, ds1, p1, q1, rfl, rfl, rfl, h1, r1⟩ := trodAll_cons r0
  obtain ⟨v2, vs2, d2, ds2, p2, q2, rfl, rfl, rfl, h2, r2⟩ := trodAll_cons r1
  obtain ⟨rfl, rfl, rfl⟩ := trodAll_nil r2
  obtain rfl : args = #[v0, v1, v2] := by cases args; simp_all
  obtain ⟨rfl, rfl⟩ := trodVars_none hV
  have k0 := h0
  have lt0 : ∀ x ∈ p0, x.block < W.heap.size := by obtain ⟨m, hm⟩ := k0; exact DataW.trod_lt m _ _ _ hm
  have a0 : Arg Try.prog W 22 v0 := Arg.mk' (hval 0 22 v0 rfl rfl) h0
  have k1 := h1
  have lt1 : ∀ x ∈ p1, x.block < W.heap.size := by obtain ⟨m, hm⟩ := k1; exact DataW.trod_lt m _ _ _ hm
  have a1 : Arg Try.prog W 22 v1 := Arg.mk' (hval 1 22 v1 rfl rfl) h1
  have k2 := h2
  have lt2 : ∀ x ∈ p2, x.block < W.heap.size := by obtain ⟨m, hm⟩ := k2; exact DataW.trod_lt m _ _ _ hm
  have a2 : Arg Try.prog W 29 v2 := Arg.mk' (hval 2 29 v2 rfl rfl) h2
  have hsz := of_decide_eq_true hk
  rw [List.append_nil] at hsz
  simp only [Rows.uptoBulkAll] at hsz
  have b0 : ∀ X n c, v0 = .slice X n c → n ≤ 1048576 := fun X n c e => by
    subst e
    have := slice_weight Try.underlying22 k0
    omega
  have b1 : ∀ X n c, v1 = .slice X n c → n ≤ 1048576 := fun X n c e => by
    subst e
    have := slice_weight Try.underlying22 k1
    omega
  clear hA0 hval0
  refine (walk v0 v1 v2 W a0 a1 a2 b0 b1).mono fun e W' ⟨he, bel⟩ => ?_
  subst he
  exact ⟨_, rfl, _, _, _, [], _, [], hW', trodAll_mk1 (shut_bool Try.underlying4 _), (trodAll_cons_mk (Below.trod laidOut (by kernel_rfl) (of_decide_eq_true (by kernel_rfl)) k0 bel lt0) (trodAll_cons_mk (Below.trod laidOut (by kernel_rfl) (of_decide_eq_true (by kernel_rfl)) k1 bel lt1) (trodAll_cons_mk (Below.trod laidOut (by kernel_rfl) (of_decide_eq_true (by kernel_rfl)) k2 bel lt2) trodAll_mk0))), rfl, bel.frame _, fun h => by cases h⟩

set_option maxRecDepth 100000 in
theorem lifted (os : Os) (started : os.Started) (H : Type) (enc : TypeId × Value → H) (F : Stop.Interp) :
    ReturnsInHanded {} Try.checked os 3 .any ((Rows.OpenSpec.upto Rows.queryMoreSpec).pre6 enc Try.prog Try.f3 Rows.queryMoreUptoRow.domain false) (((Rows.OpenSpec.upto Rows.queryMoreSpec).at F).post enc Try.prog Try.f3 false true false false) := by
  refine returnsInHanded_of_cond (C := Try.checked) (s := Rows.OpenSpec.upto Rows.queryMoreSpec) (k := Rows.uptoSmall) rfl own started (by kernel_rfl) Try.func3
    (OpenSpec.witness (enc := enc) (C := Try.checked) (s := Rows.OpenSpec.upto Rows.queryMoreSpec) (k := Rows.uptoSmall) rfl false ⟨#[], #[.slice none 0 0, .slice none 0 0, .agg #[.string .empty, .slice none 0 0, .slice none 0 0, .slice none 0 0, .slice none 0 0, .slice none 0 0, .slice none 0 0]], []⟩ 8 (by kernel_rfl) (by kernel_rfl) (by kernel_rfl)
      (x := ([.nil, .nil, .agg [.lit (.string []), .nil, .nil, .nil, .nil, .nil, .nil]], [], [])) (by kernel_rfl) rfl (by kernel_rfl)) ?_
  intro W base args ds gs before hval hW _ hk _
  exact contract H enc W base args ds gs before hval hW hk

theorem over : Rows.queryMoreUptoRow.holds Try.pinned (Rows.OpenSpec.upto Rows.queryMoreSpec) :=
  OpenClaim.holds_of_cond 3 Try.f3 rfl rfl rfl rfl rfl rfl rfl ⟨rfl, rfl, rfl, rfl, rfl⟩ rfl rfl rfl rfl rfl (by kernel_rfl) Try.func3 (by kernel_rfl)
    (of_decide_eq_true (by kernel_rfl)) (by unfold Func.isWrapper; first | (rw [if_pos (by decide +kernel)]; kernel_rfl) | (rw [if_neg (by decide +kernel)]; exact ⟨rfl, rfl⟩))
    (fun os started H enc _ F => lifted os started H enc F)

/-- The statement. -/
theorem proved : Rows.QueryMoreUptoSaid := over
#print axioms proved
end Go.Proofs.Ytheafcfbahdcfaa.queryMore
