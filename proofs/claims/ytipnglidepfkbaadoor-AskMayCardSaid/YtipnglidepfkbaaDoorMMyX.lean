/- Walks: what is known of each column of rows (zones of the statements on ask). -/
import Derived.Test.YtipnglidepfkbaaDoorMMyW
import Derived.Test.YtipnglidepfkbaaDoorMAkI
import Derived.Test.YtipnglidepfkbaaDoorMGrB
namespace Go.Proofs.YtipnglidepfkbaaDoor
set_option linter.unusedVariables false
set_option linter.unusedSimpArgs false
open Go.RowKit

attribute [local go_sem ↓] Go.wp_at_zero Go.wp_at_succ

theorem EvalY : ElemT Tryd.prog 29 44 3 32 (.agg #[.int .u8 0, .int .i64 0, .string ⟨#[]⟩]) := ElemT.mk' (by kernel_rfl) (by kernel_rfl) rfl (by omega)
theorem Ezone : ElemT Tryd.prog 34 62 8 80 (.agg #[.int .u8 0, .int .i64 0, .string ⟨#[]⟩, .int .u8 0, .int .i64 0, .string ⟨#[]⟩, .int .i64 0, .int .i64 0]) := ElemT.mk' (by kernel_rfl) (by kernel_rfl) rfl (by omega)
theorem rcells_snoc (vs : List Va) (v : Va) : rcells vs ++ [.int .u8 v.k, .int .i64 v.n, .string (St8 v.s)] = rcells (vs ++ [v]) := by
  unfold rcells
  rw [List.flatMap_append]
  rfl
theorem zcells_snoc (zs : List Zo) (z : Zo) : zcells zs ++ [.int .u8 z.least.k, .int .i64 z.least.n, .string (St8 z.least.s), .int .u8 z.most.k, .int .i64 z.most.n, .string (St8 z.most.s), .int .i64 z.nulls, .int .i64 z.many] = zcells (zs ++ [z]) := by
  rw [zcells_append]
  rfl
/-- Either there is none, or what is known of so many columns is told. -/
def ZonE (e : Ending) (w' : World) (kn : Nat) : Prop := ∃ (A : Option Addr) (n c : Nat) (b : Bool) (zs : List Zo), e = .returned (.tuple #[.slice A n c, .bool b]) ∧ (b = true → n = kn ∧ zs.length = kn ∧ Rd w' A (zcells zs))

set_option maxHeartbeats 8000000 in
set_option maxRecDepth 100000 in
theorem zones_c (kinds : List Int) (rs : List RowM) (hs : List Value) (K X : Option Addr) (kn kc m d : Nat) (w : World) (hk : kinds.length = kn) (hK : Rd w K (kcells kinds)) (hX : Rd w X hs) (hR : Rows w hs rs) (hm : m ≤ rs.length) (hm2 : m ≤ 1000) (hkn : kn ≤ 1000) :
    Calls Tryd.prog 13 #[.slice K kn kc, .slice X m d] w fun e w' => ZonE e w' kn ∧ Below w.heap.size w w' := by
  have Hk := Lib.hid hk
  have HK := Lib.hid hK
  have HX := Lib.hid hX
  have HR := Lib.hid hR
  have Hm := Lib.hid hm
  clear hk hK hX hR hm
  go_enter Tryd.func13, Tryd.ntmps13
  go_wp2_with fail
  go_loopw [6, 13] (fun v6 v13 wr => ∃ (j c6 : Nat) (A6 : Option Addr) (zs : List Zo), v6 = .slice A6 j c6 ∧ v13 = .int .i64 (j : Int) ∧ j ≤ kn ∧ Hid (zs.length = j) ∧ Hid (Own wr w.heap.size 62 8 A6 j c6 (zcells zs)) ∧ Hid (Below w.heap.size w wr)) (fun _ v13 _ => kn - (intOf v13).toNat)
  case atStart => exact ⟨0, 0, none, [], rfl, rfl, by omega, rfl, Own.nil _ _ _ _, Below.refl _ _⟩
  case round =>
    obtain ⟨j, c6, A6, zs, rfl, rfl, hj, Hzl, Ho6, Hb⟩ := hrel
    by_cases hjk : j < kn
    · have hjI : (j : Int) < (kn : Int) := by omega
      have hjI0 : (0 : Int) ≤ (j : Int) := by omega
      go_wp2_with fail
      go_loopw [8, 18] (fun v8 v18 wr => ∃ (q c8 : Nat) (A8 : Option Addr) (vs : List Va), v8 = .slice A8 q c8 ∧ v18 = .int .i64 (q : Int) ∧ q ≤ m ∧ Hid (vs.length = q) ∧ Hid (Own wr w.heap.size 44 3 A8 q c8 (rcells vs)) ∧ Hid (Own wr w.heap.size 62 8 A6 j c6 (zcells zs)) ∧ Hid (Below w.heap.size w wr)) (fun _ v18 _ => m - (intOf v18).toNat)
      case atStart => exact ⟨0, 0, none, [], rfl, rfl, by omega, rfl, Own.nil _ _ _ _, Ho6, Hb⟩
      case round =>
        clear Ho6 Hb
        obtain ⟨q, c8, A8, vs, rfl, rfl, hq, Hvl, Ho8, Ho6, Hb⟩ := hrel
        by_cases hqm : q < m
        · have hqI : (q : Int) < (m : Int) := by omega
          have hqI0 : (0 : Int) ≤ (q : Int) := by omega
          have hql : q < rs.length := Nat.lt_of_lt_of_le hqm Hm.out
          obtain ⟨b, o, A, cc, rfl, h0, hrc, hrm, hrd⟩ := head_cell (HX.out.below Hb.out) (HR.out.below Hb.out) hql
          generalize rs[q] = r at *
          obtain ⟨rn, hrn⟩ : ∃ rn, r.length = rn := ⟨_, rfl⟩
          rw [hrn] at h0 hrc
          have Hrn := Lib.hid hrn
          have Hrd := Lib.hid hrd
          have hrn1 : rn ≤ 9223372036854775807 := by unfold maxLen at hrm; omega
          have hft := Lib.hid (fits_c kinds r K A kn kc rn cc wr Hk.out Hrn.out (HK.out.below Hb.out) Hrd.out hrn1 (by omega))
          clear hrn hrd hql
          go_wp2_with fail
          refine hft.out.mono ?_
          rintro e w5 ⟨⟨b5, rfl, h5⟩, hb5⟩
          have Hb5 := Lib.hid (Hb.out.trans (hb5.mono Hb.out.size))
          have Hrd5 := Lib.hid (Hrd.out.below hb5)
          have Ho85 := Lib.hid (Ho8.out.below hb5)
          have Ho65 := Lib.hid (Ho6.out.below hb5)
          have H5 := Lib.hid h5
          clear h5 hb5 hft Ho8 Ho6 Hrd
          cases b5
          · go_wp2_with fail
            go_ret2
            exact ⟨⟨_, _, _, false, [], rfl, fun h => by cases h⟩, Hb5.out⟩
          · obtain ⟨_, hrk, hrs⟩ := H5.out rfl
            have hjr : j < r.length := by rw [Hrn.out]; omega
            have hjrI : (j : Int) < (rn : Int) := by omega
            obtain ⟨vb, vo, rfl, v0, v1, v2⟩ := row_cells Hrd5.out hjr
            have Hsn : Hid (rcells vs ++ [.int .u8 r[j].k, .int .i64 r[j].n, .string (St8 r[j].s)] = rcells (vs ++ [r[j]])) := rcells_snoc vs r[j]
            generalize r[j] = v at *
            obtain ⟨k, nn, s⟩ := v
            dsimp only at v0 v1 v2 Hsn
            have hbP := (Below.refl w5.heap.size w5).alloc (Nat.le_refl _) (.cells #[.int .u8 k, .int .i64 nn, .string (St8 s)] 44)
            have hnewP := (Blk.new w5 44 #[.int .u8 k, .int .i64 nn, .string (St8 s)]).range
            have hoP := Own.below Ho85.out hbP
            have HozP := Lib.hid (Own.below Ho65.out hbP)
            have hbP2 := Hb5.out.trans (hbP.mono Hb5.out.size)
            have HbP2 := Lib.hid hbP2
            have hzP := hbP2.size
            have hrl := rcells_len vs
            have hvl := Hvl.out
            clear hbP hbP2 hrs H5 hjr
            go_wp2_with (first | (at_builtin; refine hold ?_) | (at_make; refine hold ?_))
            (with_reducible refine unhold ?_)
            refine wpList_apd rfl _ _ _ rfl EvalY w.heap.size _ q _ (rcells vs) rfl hoP _ 1 _ [.int .u8 k, .int .i64 nn, .string (St8 s)] rfl rfl (fun _ => ⟨_, _, rfl, hnewP⟩) (by simp [Value.oneCell']) (q + 1) rfl _ rfl (by omega) (by omega) hzP ?_
            intro A9 c9 w9 ho9 hg9 _
            have Hb9 := Lib.hid (HbP2.out.grown hg9 hzP hoP.row_ge)
            have Hz9 := Lib.hid (Own.keeps HozP.out (by decide) (hoP.apd_keeps hg9))
            rw [Hsn.out] at ho9
            have Ho9 := Lib.hid ho9
            clear ho9 hg9 hoP hnewP
            go_wp2_with fail
            go_roundw
            case rel => exact ⟨q + 1, c9, A9, vs ++ [⟨k, nn, s⟩], rfl, by go_num, by omega, (by show _ = _; rw [List.length_append, Hvl.out]; rfl), Ho9, Hz9, Hb9⟩
            case measure => simp [intOf]; omega
        · obtain rfl : q = m := by omega
          have hzo := Lib.hid (zof_c vs A8 q c8 wr Hvl.out Ho8.out.rd (by omega))
          obtain ⟨Z, hZ⟩ : ∃ Z, ofZ vs = Z := ⟨_, rfl⟩
          rw [hZ] at hzo
          clear hZ
          go_wp2_with fail
          refine hzo.out.mono ?_
          rintro e w5 ⟨rfl, hb5⟩
          have Hb5 := Lib.hid (Hb.out.trans (hb5.mono Hb.out.size))
          have Ho65 := Lib.hid (Ho6.out.below hb5)
          have hbP := (Below.refl w5.heap.size w5).alloc (Nat.le_refl _) (.cells #[.int .u8 Z.least.k, .int .i64 Z.least.n, .string (St8 Z.least.s), .int .u8 Z.most.k, .int .i64 Z.most.n, .string (St8 Z.most.s), .int .i64 Z.nulls, .int .i64 Z.many] 62)
          have hnewP := (Blk.new w5 62 #[.int .u8 Z.least.k, .int .i64 Z.least.n, .string (St8 Z.least.s), .int .u8 Z.most.k, .int .i64 Z.most.n, .string (St8 Z.most.s), .int .i64 Z.nulls, .int .i64 Z.many]).range
          have hoP := Own.below Ho65.out hbP
          have hbP2 := Hb5.out.trans (hbP.mono Hb5.out.size)
          have HbP2 := Lib.hid hbP2
          have hzP := hbP2.size
          have Hsn : Hid (_ = _) := zcells_snoc zs Z
          rw [Zo.agg_eq]
          clear hbP hbP2 hb5 hzo Ho8 Ho6
          go_wp2_with (first | (at_builtin; refine hold ?_) | (at_make; refine hold ?_))
          (with_reducible refine unhold ?_)
          refine wpList_apd rfl _ _ _ rfl Ezone w.heap.size _ j _ (zcells zs) rfl hoP _ 1 _ [.int .u8 Z.least.k, .int .i64 Z.least.n, .string (St8 Z.least.s), .int .u8 Z.most.k, .int .i64 Z.most.n, .string (St8 Z.most.s), .int .i64 Z.nulls, .int .i64 Z.many] rfl rfl (fun _ => ⟨_, _, rfl, hnewP⟩) (by simp [Value.oneCell']) (j + 1) rfl _ rfl (by omega) (by omega) hzP ?_
          intro A9 c9 w9 ho9 hg9 _
          have Hb9 := Lib.hid (HbP2.out.grown hg9 hzP hoP.row_ge)
          rw [Hsn.out] at ho9
          have Ho9 := Lib.hid ho9
          clear ho9 hg9 hoP hnewP
          go_wp2_with fail
          go_roundw
          case rel => exact ⟨j + 1, c9, A9, zs ++ [Z], rfl, by go_num, by omega, (by show _ = _; rw [List.length_append, Hzl.out]; rfl), Ho9, Hb9⟩
          case measure => simp [intOf]; omega
    · obtain rfl : j = kn := by omega
      go_wp2_with fail
      go_ret2
      exact ⟨⟨_, _, _, true, zs, rfl, fun _ => ⟨rfl, Hzl.out, Ho6.out.rd⟩⟩, Hb.out⟩
end Go.Proofs.YtipnglidepfkbaaDoor
