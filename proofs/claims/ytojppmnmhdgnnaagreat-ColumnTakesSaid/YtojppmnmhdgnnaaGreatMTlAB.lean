/- The walk of parts.join: the values put together. (Printed by gen_tla.py.) The walk of column.split: what is there, and the rest. (Printed by gen_tlb.py.) -/
import Derived.Test.YtojppmnmhdgnnaaGreatMTkYZ
namespace Go.Proofs.YtojppmnmhdgnnaaGreat
set_option linter.unusedVariables false
set_option linter.unusedSimpArgs false
open Go.RowKit

attribute [local go_sem ↓] Go.wp_at_zero Go.wp_at_succ

theorem EvalC : ElemT Tryz.prog 23 60 3 32 (.agg #[.int .u8 0, .int .i64 0, .string ⟨#[]⟩]) := ElemT.mk' (by kernel_rfl) (by kernel_rfl) rfl (by omega)
/-- How join ends. -/
def JoinOK (M : Option RowM) (w : World) (e : Ending) (w' : World) : Prop :=
  ((M = none ∧ e = .returned (.tuple #[.slice none 0 0, .bool false])) ∨ ∃ l A d, M = some l ∧ e = .returned (.tuple #[.slice A l.length d, .bool true]) ∧ Rd w' A (rcells l)) ∧ Below w.heap.size w w'
theorem joinF_nz (kind : Int) {t : Int} (r n : List Int) (s : List (List UInt8)) (h : ¬ t = 0) : joinF kind (t :: r) n s = (if kind = 3 then match s with | [] => none | x :: q => (joinF kind r n q).map (⟨kind, 0, x⟩ :: ·) else match n with | [] => none | x :: q => (joinF kind r q s).map (⟨kind, x, []⟩ :: ·)) := by
  rw [joinF.eq_def]
  exact if_neg h
set_option maxHeartbeats 16000000 in
set_option maxRecDepth 100000 in
theorem join_texts (kind : Int) (t : List Int) (x : List (List UInt8)) (g tn tc xn xc oc : Nat) (T X O : Option Addr) (w : World) (hk3 : kind = 3) (hkr : 0 ≤ kind ∧ kind ≤ 255) (htl : t.length = tn) (hxl : x.length = xn) (hrt : Rd w T (icl t)) (hrx : Rd w X (wcl x)) (htn : tn ≤ 4096) (hxn : xn ≤ 4096) (hg : Blk w g 40 [.int .u8 kind, .slice T tn tc, .slice O 0 oc, .slice X xn xc]) :
    Calls Tryz.prog 18 #[.pointer (some ⟨g, 0, none⟩)] w fun e w' => JoinOK (joinF kind t [] x) w e w' := by
  have Hg := Lib.hid hg
  have Htl := Lib.hid htl
  have Hxl := Lib.hid hxl
  have Hrt := Lib.hid hrt
  have Hrx := Lib.hid hrx
  have Hk3 := Lib.hid hk3
  have hkI : (kind == 3) = true := by rw [hk3]; rfl
  have g1 := hg.cell 1
  simp only [List.getElem?_cons_zero, List.getElem?_cons_succ] at g1
  clear htl hxl hrt hrx hg hk3
  go_enter Tryz.func18, Tryz.ntmps18
  go_wp2_with fail
  go_loopw [4, 5, 14] (fun v4 v5 v14 wr => ∃ (i k : Nat) (A : Option Addr) (d : Nat) (l : RowM), v4 = .slice A i d ∧ v5 = .int .i64 (k : Int) ∧ v14 = .int .i64 (i : Int) ∧ i ≤ tn ∧ k ≤ xn ∧ k ≤ i ∧ Hid (Own wr w.heap.size 60 3 A i d (rcells l)) ∧ Hid (Below w.heap.size w wr) ∧ Hid (joinF kind t [] x = (joinF kind (t.drop i) [] (x.drop k)).map (l ++ ·))) (fun _ _ v14 _ => tn - (intOf v14).toNat)
  case atStart => exact ⟨0, 0, none, 0, [], rfl, rfl, rfl, by omega, by omega, by omega, Own.nil _ _ _ _, Below.refl _ _, (by show _ = _; simp)⟩
  case round =>
    obtain ⟨i, k, A, d, l, rfl, rfl, rfl, hi, hk, hki, Ho, Hb, HJ⟩ := hrel
    by_cases hin : i < tn
    · have hiI : (i : Int) < (tn : Int) := by omega
      have hi0 : (0 : Int) ≤ (i : Int) := by omega
      have hil : i < t.length := by rw [Htl.out]; exact hin
      have hrt3 : Rd wr T (icl t) := Hrt.out.below Hb.out
      obtain ⟨bt, ot, hTA, ci⟩ := icl_get hrt3 hil
      have Hdr : Hid (t.drop i = t[i] :: t.drop (i + 1)) := List.drop_eq_getElem_cons hil
      subst hTA
      generalize t[i] = ti at *
      clear hrt3 hil
      have hgr := Hg.out.below Hb.out
      have y0 : ∀ o, (wr.alloc o).cell? ⟨g, 0, none⟩ = some (.int .u8 kind) := fun o => (hgr.alloc o).cell 0
      have y2 : ∀ o, (wr.alloc o).cell? ⟨g, 2, none⟩ = some (.slice O 0 oc) := fun o => (hgr.alloc o).cell 2
      have y3 : ∀ o, (wr.alloc o).cell? ⟨g, 3, none⟩ = some (.slice X xn xc) := fun o => (hgr.alloc o).cell 3
      clear hgr
      by_cases ht0 : ti = 0
      · have Ht0 := Lib.hid ht0
        have e0 : (ti != 0) = false := by rw [ht0]; rfl
        have HJ2 : Hid (joinF kind t [] x = (joinF kind (t.drop (i + 1)) [] (x.drop k)).map ((l ++ [⟨0, 0, []⟩]) ++ ·)) := by
          show _ = _
          rw [HJ.out, Hdr.out, Ht0.out, joinF_null, Option.map_map]
          congr 1
          funext y
          show l ++ (_ :: y) = _
          rw [List.append_assoc]
          rfl
        clear ht0 HJ Ht0 Hdr
        go_wp2_with (first | (at_builtin; refine hold ?_) | (at_make; refine hold ?_))
        (with_reducible refine unhold ?_)
        have hb1 : Below wr.heap.size wr ((wr.alloc (.cells #[.int .u8 0, .int .i64 0, .string ⟨#[]⟩] 60)).alloc (.cells #[.int .u8 0, .int .i64 0, .string ⟨#[]⟩] 60)) := ((Below.refl _ _).alloc (Nat.le_refl _) _).alloc (by rw [World.size_alloc]; omega) _
        have hb2 : Below wr.heap.size wr ((wr.alloc (.cells #[.int .u8 0, .int .i64 0, .string ⟨#[]⟩] 60)).alloc (.cells #[.int .u8 0, .int .i64 0, .string ⟨#[]⟩] 60)) := hb1
        have hoa : Own ((wr.alloc (.cells #[.int .u8 0, .int .i64 0, .string ⟨#[]⟩] 60)).alloc (.cells #[.int .u8 0, .int .i64 0, .string ⟨#[]⟩] 60)) w.heap.size 60 3 A i d (rcells l) := Own.below Ho.out hb2
        have hrn : Rd ((wr.alloc (.cells #[.int .u8 0, .int .i64 0, .string ⟨#[]⟩] 60)).alloc (.cells #[.int .u8 0, .int .i64 0, .string ⟨#[]⟩] 60)) (some ⟨wr.heap.size + 1, 0, none⟩) [.int .u8 0, .int .i64 0, .string ⟨#[]⟩] := by
          have h := Blk.new (wr.alloc (.cells #[.int .u8 0, .int .i64 0, .string ⟨#[]⟩] 60)) 60 #[.int .u8 0, .int .i64 0, .string ⟨#[]⟩]
          rw [World.size_alloc] at h
          exact Rd.of_blk h
        have hB := Hb.out.trans (hb2.mono Hb.out.size)
        generalize ((wr.alloc (.cells #[.int .u8 0, .int .i64 0, .string ⟨#[]⟩] 60)).alloc (.cells #[.int .u8 0, .int .i64 0, .string ⟨#[]⟩] 60)) = w9 at *
        refine wpList_apd rfl _ _ _ rfl EvalC w.heap.size _ i _ (rcells l) rfl hoa _ 1 _ [.int .u8 0, .int .i64 0, .string ⟨#[]⟩] rfl rfl hrn (by simp [Value.oneCell']) (i + 1) rfl (rcells (l ++ [⟨0, 0, []⟩])) (by rw [rcells_append]; rfl) (by omega) (by omega) hB.size ?_
        intro A8 c8 w8 ho8 hg8 _
        have Hb8 := Lib.hid (hB.grown hg8 hB.size hoa.row_ge)
        have Ho8 := Lib.hid ho8
        clear ho8 hg8 hoa hrn hB hb1 hb2 Ho Hb
        go_wp2_with fail
        go_roundw
        case rel => exact ⟨i + 1, k, A8, c8, l ++ [⟨0, 0, []⟩], rfl, rfl, by go_num, by omega, by omega, by omega, Ho8, Hb8, HJ2⟩
        case measure => simp only [intOf, Int.toNat_natCast]; omega
      · have e0 : (ti != 0) = true := by rw [bne_iff_ne]; exact ht0
        have Ht0 := Lib.hid ht0
        by_cases hkx : k < xn
        · have hkl : k < x.length := by rw [Hxl.out]; exact hkx
          have hrx3 : Rd wr X (wcl x) := Hrx.out.below Hb.out
          obtain ⟨bx, ox, hXA, -⟩ := hrx3.word hkl
          subst hXA
          have cx : ∀ o, (wr.alloc o).cell? ⟨bx, ox + k, none⟩ = some (.string (St8 x[k])) := fun o => by
            obtain ⟨b, o', h1, h2⟩ := (hrx3.alloc o).word hkl
            cases h1
            exact h2
          have Hdx : Hid (x.drop k = x[k] :: x.drop (k + 1)) := List.drop_eq_getElem_cons hkl
          generalize x[k] = s at *
          clear hrx3 hkl
          have hkI : ¬ (xn : Int) ≤ (k : Int) := by omega
          have HJ2 : Hid (joinF kind t [] x = (joinF kind (t.drop (i + 1)) [] (x.drop (k + 1))).map ((l ++ [⟨kind, 0, s⟩]) ++ ·)) := by
            show _ = _
            rw [HJ.out, Hdr.out, joinF_nz _ _ _ _ Ht0.out, if_pos Hk3.out, Hdx.out]
            dsimp only
            rw [Option.map_map]
            congr 1
            funext y
            show l ++ (_ :: y) = _
            rw [List.append_assoc]
            rfl
          clear ht0 HJ Ht0 Hdr Hdx
          go_wp2_with fail
          go_region
          go_wp2_with (first | (at_builtin; refine hold ?_) | (at_make; refine hold ?_))
          (with_reducible refine unhold ?_)
          have hb1 : Below wr.heap.size wr ((wr.alloc (.cells #[.int .u8 kind, .int .i64 0, .string (St8 s)] 60)).alloc (.cells #[.int .u8 kind, .int .i64 0, .string (St8 s)] 60)) := ((Below.refl _ _).alloc (Nat.le_refl _) _).alloc (by rw [World.size_alloc]; omega) _
          have hb2 : Below wr.heap.size wr ((wr.alloc (.cells #[.int .u8 kind, .int .i64 0, .string (St8 s)] 60)).alloc (.cells #[.int .u8 kind, .int .i64 0, .string (St8 s)] 60)).drew := below_drewN' hb1 1
          have hoa : Own ((wr.alloc (.cells #[.int .u8 kind, .int .i64 0, .string (St8 s)] 60)).alloc (.cells #[.int .u8 kind, .int .i64 0, .string (St8 s)] 60)).drew w.heap.size 60 3 A i d (rcells l) := Own.below Ho.out hb2
          have hrn : Rd ((wr.alloc (.cells #[.int .u8 kind, .int .i64 0, .string (St8 s)] 60)).alloc (.cells #[.int .u8 kind, .int .i64 0, .string (St8 s)] 60)).drew (some ⟨wr.heap.size + 1, 0, none⟩) [.int .u8 kind, .int .i64 0, .string (St8 s)] := by
            have h := Blk.new (wr.alloc (.cells #[.int .u8 kind, .int .i64 0, .string (St8 s)] 60)) 60 #[.int .u8 kind, .int .i64 0, .string (St8 s)]
            rw [World.size_alloc] at h
            exact Rd.of_blk h
          have hB := Hb.out.trans (hb2.mono Hb.out.size)
          generalize ((wr.alloc (.cells #[.int .u8 kind, .int .i64 0, .string (St8 s)] 60)).alloc (.cells #[.int .u8 kind, .int .i64 0, .string (St8 s)] 60)).drew = w9 at *
          refine wpList_apd rfl _ _ _ rfl EvalC w.heap.size _ i _ (rcells l) rfl hoa _ 1 _ [.int .u8 kind, .int .i64 0, .string (St8 s)] rfl rfl hrn (by simp [Value.oneCell']) (i + 1) rfl (rcells (l ++ [⟨kind, 0, s⟩])) (by rw [rcells_append]; rfl) (by omega) (by omega) hB.size ?_
          intro A8 c8 w8 ho8 hg8 _
          have Hb8 := Lib.hid (hB.grown hg8 hB.size hoa.row_ge)
          have Ho8 := Lib.hid ho8
          clear ho8 hg8 hoa hrn hB hb1 hb2 Ho Hb
          go_wp2_with fail
          go_roundw
          case rel => exact ⟨i + 1, k + 1, A8, c8, l ++ [⟨kind, 0, s⟩], rfl, by go_num, by go_num, by omega, by omega, by omega, Ho8, Hb8, HJ2⟩
          case measure => simp only [intOf, Int.toNat_natCast]; omega
        · obtain rfl : k = xn := by omega
          have hkI : (k : Int) ≤ (k : Int) := by omega
          have HJ2 : Hid (joinF kind t [] x = none) := by
            show _ = _
            rw [HJ.out, Hdr.out, joinF_nz _ _ _ _ Ht0.out, if_pos Hk3.out, List.drop_of_length_le (by rw [Hxl.out]; exact Nat.le_refl _)]
            rfl
          clear ht0 HJ Ht0 Hdr
          go_wp2_with fail
          go_region
          go_wp2_with fail
          go_ret2
          exact ⟨.inl ⟨HJ2.out, rfl⟩, below_drewN' (Hb.out.trans (((Below.refl _ _).alloc (Nat.le_refl _) _).mono Hb.out.size)) 1⟩
    · obtain rfl : i = tn := by omega
      have HJ2 : Hid (joinF kind t [] x = some l) := by
        show _ = _
        rw [HJ.out, List.drop_of_length_le (by rw [Htl.out]; exact Nat.le_refl _)]
        show some (l ++ []) = _
        rw [List.append_nil]
      have Hll : Hid (l.length = i) := by
        show _ = _
        have := Ho.out.1
        rw [rcells_len] at this
        omega
      go_wp2_with fail
      go_ret2
      exact ⟨.inr ⟨l, A, d, HJ2.out, by rw [Hll.out]; rfl, Ho.out.rd⟩, Hb.out⟩
set_option maxHeartbeats 16000000 in
set_option maxRecDepth 100000 in
theorem join_nums (kind : Int) (t : List Int) (x : List Int) (g tn tc xn xc oc : Nat) (T X O : Option Addr) (w : World) (hk3 : ¬ kind = 3) (hkr : 0 ≤ kind ∧ kind ≤ 255) (htl : t.length = tn) (hxl : x.length = xn) (hrt : Rd w T (icl t)) (hrx : Rd w X (icl x)) (htn : tn ≤ 4096) (hxn : xn ≤ 4096) (hg : Blk w g 40 [.int .u8 kind, .slice T tn tc, .slice X xn xc, .slice O 0 oc]) :
    Calls Tryz.prog 18 #[.pointer (some ⟨g, 0, none⟩)] w fun e w' => JoinOK (joinF kind t x []) w e w' := by
  have Hg := Lib.hid hg
  have Htl := Lib.hid htl
  have Hxl := Lib.hid hxl
  have Hrt := Lib.hid hrt
  have Hrx := Lib.hid hrx
  have Hk3 := Lib.hid hk3
  have hkI : (kind == 3) = false := by rw [beq_eq_false_iff_ne]; exact hk3
  have g1 := hg.cell 1
  simp only [List.getElem?_cons_zero, List.getElem?_cons_succ] at g1
  clear htl hxl hrt hrx hg hk3
  go_enter Tryz.func18, Tryz.ntmps18
  go_wp2_with fail
  go_loopw [4, 5, 14] (fun v4 v5 v14 wr => ∃ (i k : Nat) (A : Option Addr) (d : Nat) (l : RowM), v4 = .slice A i d ∧ v5 = .int .i64 (k : Int) ∧ v14 = .int .i64 (i : Int) ∧ i ≤ tn ∧ k ≤ xn ∧ k ≤ i ∧ Hid (Own wr w.heap.size 60 3 A i d (rcells l)) ∧ Hid (Below w.heap.size w wr) ∧ Hid (joinF kind t x [] = (joinF kind (t.drop i) (x.drop k) []).map (l ++ ·))) (fun _ _ v14 _ => tn - (intOf v14).toNat)
  case atStart => exact ⟨0, 0, none, 0, [], rfl, rfl, rfl, by omega, by omega, by omega, Own.nil _ _ _ _, Below.refl _ _, (by show _ = _; simp)⟩
  case round =>
    obtain ⟨i, k, A, d, l, rfl, rfl, rfl, hi, hk, hki, Ho, Hb, HJ⟩ := hrel
    by_cases hin : i < tn
    · have hiI : (i : Int) < (tn : Int) := by omega
      have hi0 : (0 : Int) ≤ (i : Int) := by omega
      have hil : i < t.length := by rw [Htl.out]; exact hin
      have hrt3 : Rd wr T (icl t) := Hrt.out.below Hb.out
      obtain ⟨bt, ot, hTA, ci⟩ := icl_get hrt3 hil
      have Hdr : Hid (t.drop i = t[i] :: t.drop (i + 1)) := List.drop_eq_getElem_cons hil
      subst hTA
      generalize t[i] = ti at *
      clear hrt3 hil
      have hgr := Hg.out.below Hb.out
      have y0 : ∀ o, (wr.alloc o).cell? ⟨g, 0, none⟩ = some (.int .u8 kind) := fun o => (hgr.alloc o).cell 0
      have y2 : ∀ o, (wr.alloc o).cell? ⟨g, 2, none⟩ = some (.slice X xn xc) := fun o => (hgr.alloc o).cell 2
      have y3 : ∀ o, (wr.alloc o).cell? ⟨g, 3, none⟩ = some (.slice O 0 oc) := fun o => (hgr.alloc o).cell 3
      clear hgr
      by_cases ht0 : ti = 0
      · have Ht0 := Lib.hid ht0
        have e0 : (ti != 0) = false := by rw [ht0]; rfl
        have HJ2 : Hid (joinF kind t x [] = (joinF kind (t.drop (i + 1)) (x.drop k) []).map ((l ++ [⟨0, 0, []⟩]) ++ ·)) := by
          show _ = _
          rw [HJ.out, Hdr.out, Ht0.out, joinF_null, Option.map_map]
          congr 1
          funext y
          show l ++ (_ :: y) = _
          rw [List.append_assoc]
          rfl
        clear ht0 HJ Ht0 Hdr
        go_wp2_with (first | (at_builtin; refine hold ?_) | (at_make; refine hold ?_))
        (with_reducible refine unhold ?_)
        have hb1 : Below wr.heap.size wr ((wr.alloc (.cells #[.int .u8 0, .int .i64 0, .string ⟨#[]⟩] 60)).alloc (.cells #[.int .u8 0, .int .i64 0, .string ⟨#[]⟩] 60)) := ((Below.refl _ _).alloc (Nat.le_refl _) _).alloc (by rw [World.size_alloc]; omega) _
        have hb2 : Below wr.heap.size wr ((wr.alloc (.cells #[.int .u8 0, .int .i64 0, .string ⟨#[]⟩] 60)).alloc (.cells #[.int .u8 0, .int .i64 0, .string ⟨#[]⟩] 60)) := hb1
        have hoa : Own ((wr.alloc (.cells #[.int .u8 0, .int .i64 0, .string ⟨#[]⟩] 60)).alloc (.cells #[.int .u8 0, .int .i64 0, .string ⟨#[]⟩] 60)) w.heap.size 60 3 A i d (rcells l) := Own.below Ho.out hb2
        have hrn : Rd ((wr.alloc (.cells #[.int .u8 0, .int .i64 0, .string ⟨#[]⟩] 60)).alloc (.cells #[.int .u8 0, .int .i64 0, .string ⟨#[]⟩] 60)) (some ⟨wr.heap.size + 1, 0, none⟩) [.int .u8 0, .int .i64 0, .string ⟨#[]⟩] := by
          have h := Blk.new (wr.alloc (.cells #[.int .u8 0, .int .i64 0, .string ⟨#[]⟩] 60)) 60 #[.int .u8 0, .int .i64 0, .string ⟨#[]⟩]
          rw [World.size_alloc] at h
          exact Rd.of_blk h
        have hB := Hb.out.trans (hb2.mono Hb.out.size)
        generalize ((wr.alloc (.cells #[.int .u8 0, .int .i64 0, .string ⟨#[]⟩] 60)).alloc (.cells #[.int .u8 0, .int .i64 0, .string ⟨#[]⟩] 60)) = w9 at *
        refine wpList_apd rfl _ _ _ rfl EvalC w.heap.size _ i _ (rcells l) rfl hoa _ 1 _ [.int .u8 0, .int .i64 0, .string ⟨#[]⟩] rfl rfl hrn (by simp [Value.oneCell']) (i + 1) rfl (rcells (l ++ [⟨0, 0, []⟩])) (by rw [rcells_append]; rfl) (by omega) (by omega) hB.size ?_
        intro A8 c8 w8 ho8 hg8 _
        have Hb8 := Lib.hid (hB.grown hg8 hB.size hoa.row_ge)
        have Ho8 := Lib.hid ho8
        clear ho8 hg8 hoa hrn hB hb1 hb2 Ho Hb
        go_wp2_with fail
        go_roundw
        case rel => exact ⟨i + 1, k, A8, c8, l ++ [⟨0, 0, []⟩], rfl, rfl, by go_num, by omega, by omega, by omega, Ho8, Hb8, HJ2⟩
        case measure => simp only [intOf, Int.toNat_natCast]; omega
      · have e0 : (ti != 0) = true := by rw [bne_iff_ne]; exact ht0
        have Ht0 := Lib.hid ht0
        by_cases hkx : k < xn
        · have hkl : k < x.length := by rw [Hxl.out]; exact hkx
          have hrx3 : Rd wr X (icl x) := Hrx.out.below Hb.out
          obtain ⟨bx, ox, hXA, -⟩ := icl_get hrx3 hkl
          subst hXA
          have cx : ∀ o, (wr.alloc o).cell? ⟨bx, ox + k, none⟩ = some (.int .i64 x[k]) := fun o => by
            obtain ⟨b, o', h1, h2⟩ := icl_get (hrx3.alloc o) hkl
            cases h1
            exact h2
          have Hdx : Hid (x.drop k = x[k] :: x.drop (k + 1)) := List.drop_eq_getElem_cons hkl
          generalize x[k] = s at *
          clear hrx3 hkl
          have hkI : ¬ (xn : Int) ≤ (k : Int) := by omega
          have HJ2 : Hid (joinF kind t x [] = (joinF kind (t.drop (i + 1)) (x.drop (k + 1)) []).map ((l ++ [⟨kind, s, []⟩]) ++ ·)) := by
            show _ = _
            rw [HJ.out, Hdr.out, joinF_nz _ _ _ _ Ht0.out, if_neg Hk3.out, Hdx.out]
            dsimp only
            rw [Option.map_map]
            congr 1
            funext y
            show l ++ (_ :: y) = _
            rw [List.append_assoc]
            rfl
          clear ht0 HJ Ht0 Hdr Hdx
          go_wp2_with fail
          go_region
          go_wp2_with (first | (at_builtin; refine hold ?_) | (at_make; refine hold ?_))
          (with_reducible refine unhold ?_)
          have hb1 : Below wr.heap.size wr ((wr.alloc (.cells #[.int .u8 kind, .int .i64 s, .string ⟨#[]⟩] 60)).alloc (.cells #[.int .u8 kind, .int .i64 s, .string ⟨#[]⟩] 60)) := ((Below.refl _ _).alloc (Nat.le_refl _) _).alloc (by rw [World.size_alloc]; omega) _
          have hb2 : Below wr.heap.size wr ((wr.alloc (.cells #[.int .u8 kind, .int .i64 s, .string ⟨#[]⟩] 60)).alloc (.cells #[.int .u8 kind, .int .i64 s, .string ⟨#[]⟩] 60)).drew := below_drewN' hb1 1
          have hoa : Own ((wr.alloc (.cells #[.int .u8 kind, .int .i64 s, .string ⟨#[]⟩] 60)).alloc (.cells #[.int .u8 kind, .int .i64 s, .string ⟨#[]⟩] 60)).drew w.heap.size 60 3 A i d (rcells l) := Own.below Ho.out hb2
          have hrn : Rd ((wr.alloc (.cells #[.int .u8 kind, .int .i64 s, .string ⟨#[]⟩] 60)).alloc (.cells #[.int .u8 kind, .int .i64 s, .string ⟨#[]⟩] 60)).drew (some ⟨wr.heap.size + 1, 0, none⟩) [.int .u8 kind, .int .i64 s, .string ⟨#[]⟩] := by
            have h := Blk.new (wr.alloc (.cells #[.int .u8 kind, .int .i64 s, .string ⟨#[]⟩] 60)) 60 #[.int .u8 kind, .int .i64 s, .string ⟨#[]⟩]
            rw [World.size_alloc] at h
            exact Rd.of_blk h
          have hB := Hb.out.trans (hb2.mono Hb.out.size)
          generalize ((wr.alloc (.cells #[.int .u8 kind, .int .i64 s, .string ⟨#[]⟩] 60)).alloc (.cells #[.int .u8 kind, .int .i64 s, .string ⟨#[]⟩] 60)).drew = w9 at *
          refine wpList_apd rfl _ _ _ rfl EvalC w.heap.size _ i _ (rcells l) rfl hoa _ 1 _ [.int .u8 kind, .int .i64 s, .string ⟨#[]⟩] rfl rfl hrn (by simp [Value.oneCell']) (i + 1) rfl (rcells (l ++ [⟨kind, s, []⟩])) (by rw [rcells_append]; rfl) (by omega) (by omega) hB.size ?_
          intro A8 c8 w8 ho8 hg8 _
          have Hb8 := Lib.hid (hB.grown hg8 hB.size hoa.row_ge)
          have Ho8 := Lib.hid ho8
          clear ho8 hg8 hoa hrn hB hb1 hb2 Ho Hb
          go_wp2_with fail
          go_roundw
          case rel => exact ⟨i + 1, k + 1, A8, c8, l ++ [⟨kind, s, []⟩], rfl, by go_num, by go_num, by omega, by omega, by omega, Ho8, Hb8, HJ2⟩
          case measure => simp only [intOf, Int.toNat_natCast]; omega
        · obtain rfl : k = xn := by omega
          have hkI : (k : Int) ≤ (k : Int) := by omega
          have HJ2 : Hid (joinF kind t x [] = none) := by
            show _ = _
            rw [HJ.out, Hdr.out, joinF_nz _ _ _ _ Ht0.out, if_neg Hk3.out, List.drop_of_length_le (by rw [Hxl.out]; exact Nat.le_refl _)]
            rfl
          clear ht0 HJ Ht0 Hdr
          go_wp2_with fail
          go_region
          go_wp2_with fail
          go_ret2
          exact ⟨.inl ⟨HJ2.out, rfl⟩, below_drewN' (Hb.out.trans (((Below.refl _ _).alloc (Nat.le_refl _) _).mono Hb.out.size)) 1⟩
    · obtain rfl : i = tn := by omega
      have HJ2 : Hid (joinF kind t x [] = some l) := by
        show _ = _
        rw [HJ.out, List.drop_of_length_le (by rw [Htl.out]; exact Nat.le_refl _)]
        show some (l ++ []) = _
        rw [List.append_nil]
      have Hll : Hid (l.length = i) := by
        show _ = _
        have := Ho.out.1
        rw [rcells_len] at this
        omega
      go_wp2_with fail
      go_ret2
      exact ⟨.inr ⟨l, A, d, HJ2.out, by rw [Hll.out]; rfl, Ho.out.rd⟩, Hb.out⟩
end Go.Proofs.YtojppmnmhdgnnaaGreat
namespace Go.Proofs.YtojppmnmhdgnnaaGreat
set_option linter.unusedVariables false
set_option linter.unusedSimpArgs false
open Go.RowKit

attribute [local go_sem ↓] Go.wp_at_zero Go.wp_at_succ

/-- How split ends. -/
def SplitOK (b : List UInt8) (w : World) (e : Ending) (w' : World) : Prop :=
  ((splitM b = none ∧ ∃ v1 v2, e = .returned (.tuple #[v1, v2, .bool false])) ∨ ∃ l A1 c1 A2 m2 c2 rest, splitM b = some (l, rest) ∧ e = .returned (.tuple #[.slice A1 l.length c1, .slice A2 m2 c2, .bool true]) ∧ rest.length = m2 ∧ (m2 ≤ c2 ∧ c2 ≤ 9223372036854775807) ∧ Rd w' A1 (icl l) ∧ Rd w' A2 (Bs rest)) ∧ Below w.heap.size w w'

set_option maxHeartbeats 16000000 in
set_option maxRecDepth 100000 in
theorem split_any (b : List UInt8) (n c : Nat) (A : Option Addr) (w : World) (hl : b.length = n) (hr : Rd w A (Bs b)) (hn : n ≤ 500000) (hnc : n ≤ c) (hc : c ≤ 9223372036854775807) :
    Calls Tryz.prog 12 #[.slice A n c] w fun e w' => SplitOK b w e w' := by
  cases b with
  | nil =>
    obtain rfl : 0 = n := hl
    go_enter Tryz.func12, Tryz.ntmps12
    go_wp2_with fail
    go_ret3
    exact ⟨.inl ⟨rfl, _, _, rfl⟩, Below.refl _ _⟩
  | cons f t =>
    have hn0 : 0 < n := by rw [← hl, List.length_cons]; omega
    have hnI : ((n : Int) == 0) = false := by rw [beq_eq_false_iff_ne]; omega
    have hn1 : (1 : Int) ≤ (n : Int) := by omega
    obtain ⟨bb, bo, rfl, hrg⟩ := hr (by simp)
    have Hr : Hid (Rd w (some ⟨bb, bo, none⟩) (Bs (f :: t))) := fun _ => ⟨bb, bo, rfl, hrg⟩
    have htl : t.length = n - 1 := by rw [List.length_cons] at hl; omega
    have Hl := Lib.hid hl
    have HM : Hid (splitM (f :: t) = (takeNum t).bind fun x => if x.2.length < x.1 then none else (runsTakeM (x.2.take x.1)).map fun l => (l, x.2.drop x.1)) := rfl
    clear hl hr hrg
    by_cases hc1 : c = 1
    · obtain rfl : n = 1 := by omega
      subst hc1
      have ht0 : t = [] := List.eq_nil_of_length_eq_zero (by omega)
      subst ht0
      have hnw := Lib.hid (rdr_new [] 0 0 (some ⟨bb, bo, none⟩) w rfl (Rd.nil _ _) (by omega))
      clear Hr Hl htl
      go_enter Tryz.func12, Tryz.ntmps12
      go_wp2_with fail
      refine hnw.out.mono ?_
      rintro e w1 ⟨p, rfl, hrd1, hp1, hb1⟩
      have Hb1 := Lib.hid hb1
      have hpz := hrd1.lt
      have hnu := Lib.hid (rdr_num p [] false w1 hrd1)
      clear hnw hb1 hrd1
      go_wp2_with fail
      refine hnu.out.mono ?_
      rintro e w2 ⟨⟨-, rfl, hrd⟩ | ⟨_, _, ht, -, -⟩, hk⟩
      · have Hb2 := Lib.hid (Hb1.out.trans (keeps_below hk hp1 (Nat.le_of_lt hpz)))
        have hbd := Lib.hid (rdr_bad p [] true w2 hrd.rdr)
        clear hrd hk hnu
        go_wp2_with fail
        refine hbd.out.mono ?_
        rintro e w3 ⟨rfl, rfl⟩
        go_wp2_with fail
        go_ret3
        exact ⟨.inl ⟨rfl, _, _, rfl⟩, Hb2.out⟩
      · cases ht
    · have hrt : Rd w (some ⟨bb, bo + 1, none⟩) (Bs t) := Bs_end Hr.out 1
      have hnw := Lib.hid (rdr_new t (n - 1) (c - 1) (some ⟨bb, bo + 1, none⟩) w htl hrt (by omega))
      clear hrt
      go_enter Tryz.func12, Tryz.ntmps12
      go_wp2_with fail
      refine hnw.out.mono ?_
      rintro e w1 ⟨p, rfl, hrd1, hp1, hb1⟩
      have Hb1 := Lib.hid hb1
      have hpz := hrd1.lt
      have hnu := Lib.hid (rdr_num p t false w1 hrd1)
      clear hnw hb1 hrd1
      go_wp2_with fail
      refine hnu.out.mono ?_
      rintro e w2 ⟨⟨ht, rfl, hrd⟩ | ⟨m, u, ht, rfl, hrd⟩, hk⟩
      · have HN : Hid (splitM (f :: t) = none) := by
          show _ = _
          rw [HM.out, ht]
          rfl
        have Hb2 := Lib.hid (Hb1.out.trans (keeps_below hk hp1 (Nat.le_of_lt hpz)))
        have hbd := Lib.hid (rdr_bad p [] true w2 hrd.rdr)
        clear hrd hk hnu ht HM
        go_wp2_with fail
        refine hbd.out.mono ?_
        rintro e w3 ⟨rfl, rfl⟩
        go_wp2_with fail
        go_ret3
        exact ⟨.inl ⟨HN.out, _, _, rfl⟩, Hb2.out⟩
      · have Hb2 := Lib.hid (Hb1.out.trans (keeps_below hk hp1 (Nat.le_of_lt hpz)))
        have hbd := Lib.hid (rdr_bad p u false w2 hrd)
        have hlf := Lib.hid (rdr_left p u false w2 hrd)
        obtain ⟨hm64, hul⟩ := takeNum_lt ht
        obtain ⟨k, hku, -⟩ := takeNum_suf ht
        have HM2 : Hid (splitM (f :: t) = if u.length < m then none else (runsTakeM (u.take m)).map fun l => (l, u.drop m)) := by
          show _ = _
          rw [HM.out, ht]
          rfl
        obtain ⟨L, hL⟩ : ∃ L, u.length = L := ⟨_, rfl⟩
        rw [hL] at hul HM2 hlf
        have hwL : IntKind.u64.wrap (L : Int) = (L : Int) := by rw [IntKind.wrap_u64]; omega
        obtain ⟨a, ha⟩ : ∃ a, n - L = a := ⟨_, rfl⟩
        have haL : a + L = n := by omega
        have hua : u = (f :: t).drop a := by
          have h1 := congrArg List.length hku
          rw [List.length_drop, htl, hL] at h1
          by_cases hkn : k ≤ n - 1
          · have : a = k + 1 := by omega
            rw [this, List.drop_succ_cons, hku]
          · rw [hku, List.drop_eq_nil_of_le (by omega), List.drop_eq_nil_of_le (by rw [List.length_cons]; omega)]
        have hru : Rd w (some ⟨bb, bo + a, none⟩) (Bs u) := by
          rw [hua]
          exact Bs_end Hr.out a
        have Hru := Lib.hid (hru.below Hb2.out)
        have HL := Lib.hid hL
        clear hrd hk hnu ht HM hku hua hru hL ha
        by_cases hmL : L < m
        · have HN : Hid (splitM (f :: t) = none) := by
            show _ = _
            rw [HM2.out, if_pos hmL]
          have hmI : (L : Int) < (m : Int) := by omega
          clear HM2 Hru
          go_wp2_with fail
          refine hbd.out.mono ?_
          rintro e w3 ⟨rfl, rfl⟩
          go_wp2_with fail
          refine hlf.out.mono ?_
          rintro e w3 ⟨rfl, rfl⟩
          go_wp2_with fail
          go_ret3
          exact ⟨.inl ⟨HN.out, _, _, rfl⟩, Hb2.out⟩
        · have hmI : ¬ (L : Int) < (m : Int) := by omega
          have HM3 : Hid (splitM (f :: t) = (runsTakeM (u.take m)).map fun l => (l, u.drop m)) := by
            show _ = _
            rw [HM2.out, if_neg hmL]
          have hwm : IntKind.i64.wrap (m : Int) = (m : Int) := by rw [IntKind.wrap_i64]; omega
          have hnL : (n : Int) - (L : Int) = (a : Int) := by omega
          obtain ⟨q, hq⟩ : ∃ q, a + m = q := ⟨_, rfl⟩
          have hqI : (a : Int) + (m : Int) = (q : Int) := by omega
          have hqn : q ≤ n := by omega
          clear HM2
          have hm0 : (0 : Int) ≤ (m : Int) := by omega
          have hLm : (m : Int) ≤ (L : Int) := by omega
          have Hrd1 : Hid (Rd w2 (some ⟨bb, bo + a, none⟩) (Bs (u.take m))) := rdTake8 Hru.out m
          have Htl1 : Hid ((u.take m).length = m) := by show _ = _; rw [List.length_take, HL.out]; omega
          have Hrd2 : Hid (Rd w2 (some ⟨bb, bo + q, none⟩) (Bs (u.drop m))) := by
            show Rd _ _ _
            have h := Bs_end Hru.out m
            rw [Nat.add_assoc, hq] at h
            exact h
          have Hdl1 : Hid ((u.drop m).length = n - q) := by show _ = _; rw [List.length_drop, HL.out]; omega
          have hqa : (q : Int) - (a : Int) = (m : Int) := by omega
          have haq : (a : Int) ≤ (q : Int) := by omega
          have hqnI : (q : Int) ≤ (n : Int) := by omega
          have HaL := Lib.hid haL
          have Hq := Lib.hid hq
          clear Hru
          by_cases hqc : q = c
          · have hu2 : Hid (u.drop m = []) := List.eq_nil_of_length_eq_zero (by rw [Hdl1.out]; omega)
            obtain rfl : n = c := by omega
            obtain rfl : q = n := hqc
            by_cases hac : a = q
            · obtain rfl : m = 0 := by omega
              obtain rfl : L = 0 := by omega
              obtain rfl : a = q := hac
              have hu1 : Hid (u.take 0 = []) := by show _ = _; simp
              have hrt := Lib.hid (rtake_any (u.take 0) 0 0 (some ⟨bb, bo, none⟩) w2 Htl1.out (by rw [hu1.out]; exact Rd.nil _ _) (by omega))
              clear hq haL hqn hnc hwm hwL hqI hmI hmL hqa haq hqnI
              go_wp2_with fail
              refine hbd.out.mono ?_
              rintro e w3 ⟨rfl, rfl⟩
              go_wp2_with fail
              refine hlf.out.mono ?_
              rintro e w3 ⟨rfl, rfl⟩
              go_wp2_with fail
              refine hlf.out.mono ?_
              rintro e w3 ⟨rfl, rfl⟩
              go_wp2_with fail
              refine hrt.out.mono ?_
              rintro e w4 ⟨⟨hno, E, hE, rfl⟩ | ⟨l, LA, ld, hso, rfl, hrl⟩, hb4⟩
              · have HN : Hid (splitM (f :: t) = none) := by
                  show _ = _
                  rw [HM3.out, hno]
                  rfl
                have Hb4 := Lib.hid (Hb2.out.trans (hb4.mono Hb2.out.size))
                have hE2 : (E == 0) = false := by rw [beq_eq_false_iff_ne]; exact hE
                clear hno hb4 hrt HM3 hE
                go_wp2_with fail
                go_region
                go_wp2_with fail
                go_ret3
                exact ⟨.inl ⟨HN.out, _, _, rfl⟩, below_drewN' Hb4.out 1⟩
              · have HN : Hid (splitM (f :: t) = some (l, u.drop 0)) := by
                  show _ = _
                  rw [HM3.out, hso]
                  rfl
                have Hb4 := Lib.hid (Hb2.out.trans (hb4.mono Hb2.out.size))
                have Hrl := Lib.hid hrl
                have Hr4 : Hid (Rd w4 (some ⟨bb, bo, none⟩) (Bs (u.drop 0))) := Lib.hid (by rw [hu2.out]; exact Rd.nil _ _)
                clear hso hb4 hrt HM3 hrl
                go_wp2_with fail
                go_region
                go_wp2_with fail
                go_ret3
                exact ⟨.inr ⟨l, LA, ld, _, 0, 0, _, HN.out, rfl, by first | exact Hdl1.out | (rw [Hdl1.out]; omega), by omega, Hrl.out.drewN 1, Hr4.out.drewN 1⟩, below_drewN' Hb4.out 1⟩
            · have hrt := Lib.hid (rtake_any (u.take m) (q - a) (q - a) (some ⟨bb, bo + a, none⟩) w2 (by rw [Htl1.out]; omega) Hrd1.out (by omega))
              clear hqn hnc hq haL hmL
              go_wp2_with fail
              refine hbd.out.mono ?_
              rintro e w3 ⟨rfl, rfl⟩
              go_wp2_with fail
              refine hlf.out.mono ?_
              rintro e w3 ⟨rfl, rfl⟩
              go_wp2_with fail
              refine hlf.out.mono ?_
              rintro e w3 ⟨rfl, rfl⟩
              go_wp2_with fail
              refine hrt.out.mono ?_
              rintro e w4 ⟨⟨hno, E, hE, rfl⟩ | ⟨l, LA, ld, hso, rfl, hrl⟩, hb4⟩
              · have HN : Hid (splitM (f :: t) = none) := by
                  show _ = _
                  rw [HM3.out, hno]
                  rfl
                have Hb4 := Lib.hid (Hb2.out.trans (hb4.mono Hb2.out.size))
                have hE2 : (E == 0) = false := by rw [beq_eq_false_iff_ne]; exact hE
                clear hno hb4 hrt HM3 hE
                go_wp2_with fail
                go_region
                go_wp2_with fail
                go_ret3
                exact ⟨.inl ⟨HN.out, _, _, rfl⟩, below_drewN' Hb4.out 1⟩
              · have HN : Hid (splitM (f :: t) = some (l, u.drop m)) := by
                  show _ = _
                  rw [HM3.out, hso]
                  rfl
                have Hb4 := Lib.hid (Hb2.out.trans (hb4.mono Hb2.out.size))
                have Hrl := Lib.hid hrl
                have Hr4 : Hid (Rd w4 (some ⟨bb, bo, none⟩) (Bs (u.drop m))) := Lib.hid (by rw [hu2.out]; exact Rd.nil _ _)
                clear hso hb4 hrt HM3 hrl
                go_wp2_with fail
                go_region
                go_wp2_with fail
                go_ret3
                exact ⟨.inr ⟨l, LA, ld, _, 0, 0, _, HN.out, rfl, by first | exact Hdl1.out | (rw [Hdl1.out]; omega), by omega, Hrl.out.drewN 1, Hr4.out.drewN 1⟩, below_drewN' Hb4.out 1⟩
          · have hac : ¬ a = c := by omega
            have hrt := Lib.hid (rtake_any (u.take m) (q - a) (c - a) (some ⟨bb, bo + a, none⟩) w2 (by rw [Htl1.out]; omega) Hrd1.out (by omega))
            clear hq haL hmL
            go_wp2_with fail
            refine hbd.out.mono ?_
            rintro e w3 ⟨rfl, rfl⟩
            go_wp2_with fail
            refine hlf.out.mono ?_
            rintro e w3 ⟨rfl, rfl⟩
            go_wp2_with fail
            refine hlf.out.mono ?_
            rintro e w3 ⟨rfl, rfl⟩
            go_wp2_with fail
            refine hrt.out.mono ?_
            rintro e w4 ⟨⟨hno, E, hE, rfl⟩ | ⟨l, LA, ld, hso, rfl, hrl⟩, hb4⟩
            · have HN : Hid (splitM (f :: t) = none) := by
                show _ = _
                rw [HM3.out, hno]
                rfl
              have Hb4 := Lib.hid (Hb2.out.trans (hb4.mono Hb2.out.size))
              have hE2 : (E == 0) = false := by rw [beq_eq_false_iff_ne]; exact hE
              clear hno hb4 hrt HM3 hE
              go_wp2_with fail
              go_region
              go_wp2_with fail
              go_ret3
              exact ⟨.inl ⟨HN.out, _, _, rfl⟩, below_drewN' Hb4.out 1⟩
            · have HN : Hid (splitM (f :: t) = some (l, u.drop m)) := by
                show _ = _
                rw [HM3.out, hso]
                rfl
              have Hb4 := Lib.hid (Hb2.out.trans (hb4.mono Hb2.out.size))
              have Hrl := Lib.hid hrl
              have Hr4 : Hid (Rd w4 (some ⟨bb, bo + q, none⟩) (Bs (u.drop m))) := Lib.hid (Hrd2.out.below hb4)
              clear hso hb4 hrt HM3 hrl
              go_wp2_with fail
              go_region
              go_wp2_with fail
              go_ret3
              exact ⟨.inr ⟨l, LA, ld, _, n - q, c - q, _, HN.out, rfl, by first | exact Hdl1.out | (rw [Hdl1.out]; omega), by omega, Hrl.out.drewN 1, Hr4.out.drewN 1⟩, below_drewN' Hb4.out 1⟩
end Go.Proofs.YtojppmnmhdgnnaaGreat
