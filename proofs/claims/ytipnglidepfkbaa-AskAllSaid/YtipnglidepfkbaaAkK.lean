/- Walks: the reference's lists of nodes, laid one behind the other and held against one another; the examples. -/
import Derived.Test.YtipnglidepfkbaaAkJ
namespace Go.Proofs.Ytipnglidepfkbaa
open Go.RowKit

attribute [local go_sem ↓] Go.wp_at_zero Go.wp_at_succ

theorem always_cases {w : World} {l : List Nd} {A : Option Addr} {n : Nat} (hn : l.length = n) (hr : Rd w A (ncells l)) :
    (alwaysM l = false ∧ ((n : Int) == 1) = false) ∨ ∃ b o op, (((n : Int) == 1) = true ∧ (0 : Int) < (n : Int)) ∧ A = some ⟨b, o, none⟩ ∧ w.cell? ⟨b, o, none⟩ = some (.int .u8 op) ∧ alwaysM l = (op == 1) := by
  by_cases h1 : n = 1
  · subst h1
    obtain ⟨x, rfl, hx⟩ := alwaysM_one hn
    obtain ⟨b, o, rfl, c0, c1, c2, c3, c4, c5⟩ := node_cells hr (l := [x]) (j := 0) (n := x) rfl
    rw [Nat.zero_mul, Nat.add_zero] at c0
    exact .inr ⟨b, o, x.op, ⟨rfl, by omega⟩, rfl, c0, by rw [hx]; by_cases h : x.op = 1 <;> simp [h]⟩
  · exact .inl ⟨alwaysM_many (by rw [hn]; exact h1), by rw [beq_eq_false_iff_ne]; omega⟩

set_option maxHeartbeats 4000000 in
set_option maxRecDepth 100000 in
theorem rall_c (a b : List Nd) (A B : Option Addr) (n m c c' : Nat) (w : World) (ha : a.length = n) (hb : b.length = m) (hA : Rd w A (ncells a)) (hB : Rd w B (ncells b)) (hn : n ≤ 1000) (hm : m ≤ 1000) :
    Calls Try.prog 8 #[.slice A n c, .slice B m c'] w fun e w' => (∃ X d, e = .returned (.slice X (allM a b).length d) ∧ Rd w' X (ncells (allM a b))) ∧ Below w.heap.size w w' := by
  have hv : Hid (allM a b = if alwaysM b = true then a else if alwaysM a = true then b else and2 :: (a ++ b)) := rfl
  generalize allM a b = R at *
  have hcb := always_cases hb hB
  have hca := always_cases ha hA
  have HA := Lib.hid hA
  have HB := Lib.hid hB
  have Hla := Lib.hid ha
  have Hlb := Lib.hid hb
  clear hA hB ha hb
  rcases hcb with ⟨hvb, hib⟩ | ⟨bb, ob, opb, ⟨hib, hjb⟩, rfl, cb, hvb⟩
  · rcases hca with ⟨hva, hia⟩ | ⟨ba, oa, opa, ⟨hia, hja⟩, rfl, ca, hva⟩
    · have hv2 : Hid (R = and2 :: (a ++ b)) := by show _ = _; rw [hv.out, hvb, hva]; rfl
      have Hb0 := Lib.hid ((Below.refl w.heap.size w).alloc (Nat.le_refl _) (.cells #[.int .u8 2, .int .i64 0, .int .i64 2, .int .u8 0, .int .i64 0, .string ⟨#[]⟩] 39))
      have hz0 : (w.alloc (.cells #[.int .u8 2, .int .i64 0, .int .i64 2, .int .u8 0, .int .i64 0, .string ⟨#[]⟩] 39)).heap.size = w.heap.size + 1 := by rw [World.size_alloc]
      have ho1 : Own (w.alloc (.cells #[.int .u8 2, .int .i64 0, .int .i64 2, .int .u8 0, .int .i64 0, .string ⟨#[]⟩] 39)) w.heap.size 39 6 (some ⟨w.heap.size, 0, none⟩) 1 1 (ncells [and2]) := World.ownsRow_lit w #[.int .u8 2, .int .i64 0, .int .i64 2, .int .u8 0, .int .i64 0, .string ⟨#[]⟩] 1 (Nat.le_refl _) (by unfold maxLen; omega) rfl
      have HA1 := HA.out.below Hb0.out
      have hla := ncells_len a
      have hlb := ncells_len b
      have hw0 : Below w.heap.size w w := Below.refl _ _
      rw [Hla.out] at hla
      rw [Hlb.out] at hlb
      have hla := Lib.hid hla
      have hlb := Lib.hid hlb
      clear hv hva hvb HA
      go_enter Try.func8, Try.ntmps8
      go_wp2_with (first | (at_builtin; refine hold ?_) | (at_make; refine hold ?_))
      (with_reducible refine unhold ?_)
      refine wpList_apd rfl _ _ _ rfl Enode w.heap.size _ 1 _ (ncells [and2]) rfl ho1 _ n _ (ncells a) rfl hla.out HA1 (ncells_one a) (1 + n) rfl _ rfl (by omega) (by omega) (by rw [hz0]; omega) ?_
      intro A2 c2 w2 ho2 hg2 hat2
      have hb2 := Hb0.out.grown hg2 Hb0.out.size ho1.row_ge
      have HB2 := HB.out.below hb2
      clear ho1 hg2 hat2
      go_wp2_with (first | (at_builtin; refine hold ?_) | (at_make; refine hold ?_))
      (with_reducible refine unhold ?_)
      refine wpList_apd rfl _ _ _ rfl Enode w.heap.size _ (1 + n) _ _ rfl ho2 _ m _ (ncells b) rfl hlb.out HB2 (ncells_one b) (1 + n + m) rfl _ rfl (by omega) (by omega) hb2.size ?_
      intro A3 c3 w3 ho3 hg3 _
      have hb3 := hb2.grown hg3 hb2.size ho2.row_ge
      go_wp2_with fail
      go_ret
      rw [hv2.out]
      exact ⟨⟨A3, c3, by rw [List.length_cons, List.length_append, Hla.out, Hlb.out]; rw [show n + m + 1 = 1 + n + m from by omega]; rfl, by have := ho3.rd; rw [← ncells_append, ← ncells_append] at this; exact this⟩, hb3⟩
    · cases eoa : (opa == 1)
      · rw [eoa] at hva
        have hv2 : Hid (R = and2 :: (a ++ b)) := by show _ = _; rw [hv.out, hvb, hva]; rfl
        have Hb0 := Lib.hid ((Below.refl w.heap.size w).alloc (Nat.le_refl _) (.cells #[.int .u8 2, .int .i64 0, .int .i64 2, .int .u8 0, .int .i64 0, .string ⟨#[]⟩] 39))
        have hz0 : (w.alloc (.cells #[.int .u8 2, .int .i64 0, .int .i64 2, .int .u8 0, .int .i64 0, .string ⟨#[]⟩] 39)).heap.size = w.heap.size + 1 := by rw [World.size_alloc]
        have ho1 : Own (w.alloc (.cells #[.int .u8 2, .int .i64 0, .int .i64 2, .int .u8 0, .int .i64 0, .string ⟨#[]⟩] 39)) w.heap.size 39 6 (some ⟨w.heap.size, 0, none⟩) 1 1 (ncells [and2]) := World.ownsRow_lit w #[.int .u8 2, .int .i64 0, .int .i64 2, .int .u8 0, .int .i64 0, .string ⟨#[]⟩] 1 (Nat.le_refl _) (by unfold maxLen; omega) rfl
        have HA1 := HA.out.below Hb0.out
        have hla := ncells_len a
        have hlb := ncells_len b
        have hw0 : Below w.heap.size w w := Below.refl _ _
        rw [Hla.out] at hla
        rw [Hlb.out] at hlb
        have hla := Lib.hid hla
        have hlb := Lib.hid hlb
        clear hv hva hvb HA
        go_enter Try.func8, Try.ntmps8
        go_wp2_with (first | (at_builtin; refine hold ?_) | (at_make; refine hold ?_))
        (with_reducible refine unhold ?_)
        refine wpList_apd rfl _ _ _ rfl Enode w.heap.size _ 1 _ (ncells [and2]) rfl ho1 _ n _ (ncells a) rfl hla.out HA1 (ncells_one a) (1 + n) rfl _ rfl (by omega) (by omega) (by rw [hz0]; omega) ?_
        intro A2 c2 w2 ho2 hg2 hat2
        have hb2 := Hb0.out.grown hg2 Hb0.out.size ho1.row_ge
        have HB2 := HB.out.below hb2
        clear ho1 hg2 hat2
        go_wp2_with (first | (at_builtin; refine hold ?_) | (at_make; refine hold ?_))
        (with_reducible refine unhold ?_)
        refine wpList_apd rfl _ _ _ rfl Enode w.heap.size _ (1 + n) _ _ rfl ho2 _ m _ (ncells b) rfl hlb.out HB2 (ncells_one b) (1 + n + m) rfl _ rfl (by omega) (by omega) hb2.size ?_
        intro A3 c3 w3 ho3 hg3 _
        have hb3 := hb2.grown hg3 hb2.size ho2.row_ge
        go_wp2_with fail
        go_ret
        rw [hv2.out]
        exact ⟨⟨A3, c3, by rw [List.length_cons, List.length_append, Hla.out, Hlb.out]; rw [show n + m + 1 = 1 + n + m from by omega]; rfl, by have := ho3.rd; rw [← ncells_append, ← ncells_append] at this; exact this⟩, hb3⟩
      · rw [eoa] at hva
        have hv2 : Hid (R = b) := by show _ = _; rw [hv.out, hvb, hva]; rfl
        clear hv hvb hva
        go_enter Try.func8, Try.ntmps8
        go_wp2_with fail
        go_ret
        rw [hv2.out, Hlb.out]
        exact ⟨⟨_, _, rfl, HB.out⟩, Below.refl _ _⟩
  · cases eob : (opb == 1)
    · rw [eob] at hvb
      rcases hca with ⟨hva, hia⟩ | ⟨ba, oa, opa, ⟨hia, hja⟩, rfl, ca, hva⟩
      · have hv2 : Hid (R = and2 :: (a ++ b)) := by show _ = _; rw [hv.out, hvb, hva]; rfl
        have Hb0 := Lib.hid ((Below.refl w.heap.size w).alloc (Nat.le_refl _) (.cells #[.int .u8 2, .int .i64 0, .int .i64 2, .int .u8 0, .int .i64 0, .string ⟨#[]⟩] 39))
        have hz0 : (w.alloc (.cells #[.int .u8 2, .int .i64 0, .int .i64 2, .int .u8 0, .int .i64 0, .string ⟨#[]⟩] 39)).heap.size = w.heap.size + 1 := by rw [World.size_alloc]
        have ho1 : Own (w.alloc (.cells #[.int .u8 2, .int .i64 0, .int .i64 2, .int .u8 0, .int .i64 0, .string ⟨#[]⟩] 39)) w.heap.size 39 6 (some ⟨w.heap.size, 0, none⟩) 1 1 (ncells [and2]) := World.ownsRow_lit w #[.int .u8 2, .int .i64 0, .int .i64 2, .int .u8 0, .int .i64 0, .string ⟨#[]⟩] 1 (Nat.le_refl _) (by unfold maxLen; omega) rfl
        have HA1 := HA.out.below Hb0.out
        have hla := ncells_len a
        have hlb := ncells_len b
        have hw0 : Below w.heap.size w w := Below.refl _ _
        rw [Hla.out] at hla
        rw [Hlb.out] at hlb
        have hla := Lib.hid hla
        have hlb := Lib.hid hlb
        clear hv hva hvb HA
        go_enter Try.func8, Try.ntmps8
        go_wp2_with (first | (at_builtin; refine hold ?_) | (at_make; refine hold ?_))
        (with_reducible refine unhold ?_)
        refine wpList_apd rfl _ _ _ rfl Enode w.heap.size _ 1 _ (ncells [and2]) rfl ho1 _ n _ (ncells a) rfl hla.out HA1 (ncells_one a) (1 + n) rfl _ rfl (by omega) (by omega) (by rw [hz0]; omega) ?_
        intro A2 c2 w2 ho2 hg2 hat2
        have hb2 := Hb0.out.grown hg2 Hb0.out.size ho1.row_ge
        have HB2 := HB.out.below hb2
        clear ho1 hg2 hat2
        go_wp2_with (first | (at_builtin; refine hold ?_) | (at_make; refine hold ?_))
        (with_reducible refine unhold ?_)
        refine wpList_apd rfl _ _ _ rfl Enode w.heap.size _ (1 + n) _ _ rfl ho2 _ m _ (ncells b) rfl hlb.out HB2 (ncells_one b) (1 + n + m) rfl _ rfl (by omega) (by omega) hb2.size ?_
        intro A3 c3 w3 ho3 hg3 _
        have hb3 := hb2.grown hg3 hb2.size ho2.row_ge
        go_wp2_with fail
        go_ret
        rw [hv2.out]
        exact ⟨⟨A3, c3, by rw [List.length_cons, List.length_append, Hla.out, Hlb.out]; rw [show n + m + 1 = 1 + n + m from by omega]; rfl, by have := ho3.rd; rw [← ncells_append, ← ncells_append] at this; exact this⟩, hb3⟩
      · cases eoa : (opa == 1)
        · rw [eoa] at hva
          have hv2 : Hid (R = and2 :: (a ++ b)) := by show _ = _; rw [hv.out, hvb, hva]; rfl
          have Hb0 := Lib.hid ((Below.refl w.heap.size w).alloc (Nat.le_refl _) (.cells #[.int .u8 2, .int .i64 0, .int .i64 2, .int .u8 0, .int .i64 0, .string ⟨#[]⟩] 39))
          have hz0 : (w.alloc (.cells #[.int .u8 2, .int .i64 0, .int .i64 2, .int .u8 0, .int .i64 0, .string ⟨#[]⟩] 39)).heap.size = w.heap.size + 1 := by rw [World.size_alloc]
          have ho1 : Own (w.alloc (.cells #[.int .u8 2, .int .i64 0, .int .i64 2, .int .u8 0, .int .i64 0, .string ⟨#[]⟩] 39)) w.heap.size 39 6 (some ⟨w.heap.size, 0, none⟩) 1 1 (ncells [and2]) := World.ownsRow_lit w #[.int .u8 2, .int .i64 0, .int .i64 2, .int .u8 0, .int .i64 0, .string ⟨#[]⟩] 1 (Nat.le_refl _) (by unfold maxLen; omega) rfl
          have HA1 := HA.out.below Hb0.out
          have hla := ncells_len a
          have hlb := ncells_len b
          have hw0 : Below w.heap.size w w := Below.refl _ _
          rw [Hla.out] at hla
          rw [Hlb.out] at hlb
          have hla := Lib.hid hla
          have hlb := Lib.hid hlb
          clear hv hva hvb HA
          go_enter Try.func8, Try.ntmps8
          go_wp2_with (first | (at_builtin; refine hold ?_) | (at_make; refine hold ?_))
          (with_reducible refine unhold ?_)
          refine wpList_apd rfl _ _ _ rfl Enode w.heap.size _ 1 _ (ncells [and2]) rfl ho1 _ n _ (ncells a) rfl hla.out HA1 (ncells_one a) (1 + n) rfl _ rfl (by omega) (by omega) (by rw [hz0]; omega) ?_
          intro A2 c2 w2 ho2 hg2 hat2
          have hb2 := Hb0.out.grown hg2 Hb0.out.size ho1.row_ge
          have HB2 := HB.out.below hb2
          clear ho1 hg2 hat2
          go_wp2_with (first | (at_builtin; refine hold ?_) | (at_make; refine hold ?_))
          (with_reducible refine unhold ?_)
          refine wpList_apd rfl _ _ _ rfl Enode w.heap.size _ (1 + n) _ _ rfl ho2 _ m _ (ncells b) rfl hlb.out HB2 (ncells_one b) (1 + n + m) rfl _ rfl (by omega) (by omega) hb2.size ?_
          intro A3 c3 w3 ho3 hg3 _
          have hb3 := hb2.grown hg3 hb2.size ho2.row_ge
          go_wp2_with fail
          go_ret
          rw [hv2.out]
          exact ⟨⟨A3, c3, by rw [List.length_cons, List.length_append, Hla.out, Hlb.out]; rw [show n + m + 1 = 1 + n + m from by omega]; rfl, by have := ho3.rd; rw [← ncells_append, ← ncells_append] at this; exact this⟩, hb3⟩
        · rw [eoa] at hva
          have hv2 : Hid (R = b) := by show _ = _; rw [hv.out, hvb, hva]; rfl
          clear hv hvb hva
          go_enter Try.func8, Try.ntmps8
          go_wp2_with fail
          go_ret
          rw [hv2.out, Hlb.out]
          exact ⟨⟨_, _, rfl, HB.out⟩, Below.refl _ _⟩
    · rw [eob] at hvb
      have hv2 : Hid (R = a) := by show _ = _; rw [hv.out, hvb]; rfl
      clear hv hvb
      go_enter Try.func8, Try.ntmps8
      go_wp2_with fail
      go_ret
      rw [hv2.out, Hla.out]
      exact ⟨⟨_, _, rfl, HA.out⟩, Below.refl _ _⟩
set_option maxHeartbeats 4000000 in
set_option maxRecDepth 100000 in
theorem same_c (l m : List Nd) (n k : Nat) (A A' : Option Addr) (c c' : Nat) (w : World) (hl : l.length = n) (hm : m.length = k) (hA : Rd w A (ncells l)) (hA' : Rd w A' (ncells m)) (hn : n ≤ 140737488355328) (hk : k ≤ 140737488355328) (hlm : l = m) :
    Calls Try.prog 7 #[.slice A n c, .slice A' k c'] w fun e w' => e = .returned (.bool true) ∧ Below w.heap.size w w' := by
  subst hlm
  obtain rfl : n = k := by omega
  have Hl := Lib.hid hl
  clear hl hm
  have hne : ((n : Int) != (n : Int)) = false := by simp
  go_enter Try.func7, Try.ntmps7
  go_wp2_with fail
  go_loopw [5] (fun i wr => ∃ (j q : Nat), j ≤ n ∧ i = .int .i64 j ∧ wr = w.drewN q) (fun i _ => n - (intOf i).toNat)
  case atStart => exact ⟨0, 0, by omega, rfl, rfl⟩
  case round =>
    obtain ⟨j, q, hj, rfl, rfl⟩ := hrel
    by_cases hlt : j < n
    · have hjl : j < l.length := by rw [Hl.out]; exact hlt
      have hg := List.getElem?_eq_getElem hjl
      obtain ⟨b, o, rfl, c0, c1, c2, c3, c4, c5⟩ := node_cells hA hg
      obtain ⟨b', o', rfl, d0, d1, d2, d3, d4, d5⟩ := node_cells hA' hg
      clear hA hA' hg
      generalize l[j] = x at *
      clear hjl
      obtain ⟨op, col, kids, kk, nn, s⟩ := x
      dsimp only at c0 c1 c2 c3 c4 c5 d0 d1 d2 d3 d4 d5
      have hjI : (0 : Int) ≤ (j : Int) := by omega
      have hjI' : (j : Int) < (n : Int) := by omega
      go_wp2_with fail
      go_quiet (fail)
      go_wp2_with fail
      go_roundw
      case rel => exact ⟨j + 1, _, by omega, by go_num, rfl⟩
      case measure => simp [intOf]; omega
    · obtain rfl : j = n := by omega
      go_wp2_with fail
      go_ret
      exact ⟨rfl, below_drewN' (Below.refl _ _) _⟩
end Go.Proofs.Ytipnglidepfkbaa
