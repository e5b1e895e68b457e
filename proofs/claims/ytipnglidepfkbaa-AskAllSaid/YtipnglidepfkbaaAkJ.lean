/- Walks: lists of nodes, laid one behind the other, asked all together, held against one another. -/
import Derived.Test.YtipnglidepfkbaaAkI
import Derived.Lib.AppendZeros
namespace Go.Proofs.Ytipnglidepfkbaa
open Go.RowKit

attribute [local go_sem ↓] Go.wp_at_zero Go.wp_at_succ

theorem Enode : ElemT Try.prog 23 39 6 56 (.agg #[.int .u8 0, .int .i64 0, .int .i64 0, .int .u8 0, .int .i64 0, .string ⟨#[]⟩]) := ElemT.mk' (by kernel_rfl) (by kernel_rfl) rfl (by omega)
theorem qn_nil (w : World) (A : Option Addr) (n c n' c' : Nat) : (binOp .eql 23 (.slice A n c) (.slice none n' c')).run Try.prog w = .ok (.bool A.isNone) w := by
  have hu : Try.prog.underlying 23 = some (.slice 39) := by kernel_rfl
  exact Lib.run_eql_slice_nil w 23 39 A n c n' c' hu
theorem Own.base' {w : World} {base base' : Nat} {e : TypeId} {size : Nat} {A : Option Addr} {n c : Nat} {xs : List Value} (h : Own w base e size A n c xs) (hb : base' ≤ base) : Own w base' e size A n c xs :=
  ⟨h.1, h.2.imp id fun ⟨g, cap, cur, hv, hg, rest⟩ => ⟨g, cap, cur, hv, Nat.le_trans hb hg, rest⟩⟩
set_option maxRecDepth 100000 in
theorem cloneN_any (l : List Nd) (n c : Nat) (A : Option Addr) (w : World) (hn : l.length = n) (hr : Rd w A (ncells l)) (hl : n ≤ 1000000) :
    Calls Try.prog 15 #[.slice A n c] w fun e w' => ∃ A' c', e = .returned (.slice A' n c') ∧ Own w' w.heap.size 39 6 A' n c' (ncells l) ∧ Below w.heap.size w w' := by
  have Hn := Lib.hid hn
  clear hn
  cases A with
  | none =>
    have h0 : ncells l = [] := by
      refine Classical.byContradiction fun hne => ?_
      obtain ⟨b, o, h, _⟩ := hr hne
      cases h
    have hl0 := ncells_len l
    rw [h0] at hl0
    obtain rfl : 0 = n := by have := Hn.out; simp only [List.length_nil] at hl0; omega
    have hr0 := Lib.hid h0
    have hq := fun w => qn_nil w none 0 c 0 0
    rw [Option.isNone_none] at hq
    clear h0 hl0
    go_enter Try.func15, Try.ntmps15
    go_wp2_with fail
    go_ret
    rw [hr0.out]
    exact ⟨none, 0, rfl, Own.nil _ _ _ _, Below.refl _ _⟩
  | some a =>
    have ho1 : Own (w.alloc (.cells #[] 39)) w.heap.size 39 6 (some ⟨w.heap.size, 0, none⟩) 0 0 [] := World.ownsRow_made w #[] 0 (Nat.le_refl _) (by unfold maxLen; omega) rfl
    have hbA : Below w.heap.size w (w.alloc (.cells #[] 39)) := (Below.refl _ _).alloc (Nat.le_refl _) _
    have hq := fun w => qn_nil w (some a) n c 0 0
    rw [Option.isNone_some] at hq
    go_enter Try.func15, Try.ntmps15
    go_wp2_with (first | (at_builtin; refine hold ?_) | (at_make; refine hold ?_))
    (with_reducible refine unhold ?_)
    refine wpList_apd rfl _ _ _ rfl Enode w.heap.size _ 0 _ [] rfl ho1 _ n _ (ncells l) rfl (by rw [ncells_len, Hn.out]) (hr.below hbA) (ncells_one l) n (Nat.zero_add _) (ncells l) rfl (by omega) (by omega) hbA.size ?_
    intro A2 c2 w2 ho2 hg2 _
    have hb2 := hbA.grown hg2 hbA.size ho1.row_ge
    go_wp2_with fail
    go_ret
    exact ⟨_, _, rfl, ho2, hb2⟩

set_option maxRecDepth 100000 in
theorem growN_nil (w : World) : Calls Try.prog 30 #[.slice none 0 0, .int .i64 0] w fun e w' => e = .returned (.slice none 0 0) ∧ w = w' := by
  go_enter Try.func30, Try.ntmps30
  go_wp2_with fail
  go_ret
  exact ⟨rfl, rfl⟩
set_option maxRecDepth 100000 in
theorem growN_pos (n : Nat) (w : World) (h0 : 0 < n) (hn : n ≤ 1000000) :
    Calls Try.prog 30 #[.slice none 0 0, .int .i64 (n : Int)] w fun e w' => ∃ A c, e = .returned (.slice A 0 c) ∧ Own w' w.heap.size 39 6 A 0 c [] ∧ Below w.heap.size w w' := by
  obtain ⟨hu, ⟨i, hi, hz, hs, hby⟩, hzs, hp⟩ := Enode
  have hrun := Lib.run_append_nil_zeros w 23 3 23 39 i _ .i64 .i64 hu Try.underlying3 hi hz n h0 (by rw [hs]; exact hp) (by omega) (by rw [hby]; omega)
  have hge := grownCap_ge w n 0 39
  have hcm : grownCap w n 0 39 ≤ maxLen := grownCap_le_maxLen w n 0 39 (by unfold maxLen; omega)
  generalize hcap : grownCap w n 0 39 = cap at *
  have hcap' := Lib.hid hcap
  clear hcap hi hz hs hby
  generalize hcs : (Builtin.zeroCells (Value.cells (.agg #[.int .u8 0, .int .i64 0, .int .i64 0, .int .u8 0, .int .i64 0, .string ⟨#[]⟩])) n ++ Builtin.zeroCells (Value.cells (.agg #[.int .u8 0, .int .i64 0, .int .i64 0, .int .u8 0, .int .i64 0, .string ⟨#[]⟩])) (cap - n)) = cs at *
  have hsz : Hid (cs.size = cap * 6) := by
    show _ = _
    rw [← hcs, Array.size_append, size_zeroCells, size_zeroCells, hzs]
    omega
  clear hcs hzs hp hu
  have hown : Hid (Own (w.drew.alloc (.cells cs 39)) w.heap.size 39 6 (some ⟨w.heap.size, 0, none⟩) 0 cap []) := World.ownsRow_made w.drew cs cap (Nat.le_refl _) hcm hsz.out
  have hb : Below w.heap.size w (w.drew.alloc (.cells cs 39)) := by go_grown
  unfold maxLen at hcm
  go_enter Try.func30, Try.ntmps30
  go_wp2_with (first | (at_builtin; refine hold ?_) | (at_make; refine hold ?_))
  (with_reducible refine unhold ?_)
  refine Lib.wpList_append_run _ rfl _ _ _ _ rfl _ _ rfl rfl _ _ hrun ?_
  clear hrun
  go_wp2_with fail
  go_ret
  exact ⟨_, _, rfl, hown.out, hb⟩
theorem growN_any (n : Nat) (w : World) (hn : n ≤ 1000000) :
    Calls Try.prog 30 #[.slice none 0 0, .int .i64 (n : Int)] w fun e w' => ∃ A c, e = .returned (.slice A 0 c) ∧ Own w' w.heap.size 39 6 A 0 c [] ∧ Below w.heap.size w w' := by
  by_cases h0 : n = 0
  · subst h0
    refine (growN_nil w).mono ?_
    rintro e w' ⟨rfl, rfl⟩
    exact ⟨none, 0, rfl, Own.nil _ _ _ _, Below.refl _ _⟩
  · exact growN_pos n w (by omega) hn

theorem flatN_take (rs : List (List Nd)) {j : Nat} (hj : j < rs.length) : (rs.take (j + 1)).flatten = (rs.take j).flatten ++ rs[j] := by
  rw [List.take_succ_eq_append_getElem hj, List.flatten_append, List.flatten_singleton]
theorem flatN_le (rs : List (List Nd)) (j : Nat) : (rs.take j).flatten.length ≤ rs.flatten.length := by
  have h := congrArg (fun l => l.flatten.length) (List.take_append_drop j rs)
  simp only [List.flatten_append, List.length_append] at h
  omega
/-- The headers hs are of lists of nodes. -/
def NLists (w : World) (hs : List Value) (ls : List (List Nd)) : Prop :=
  ∀ (i : Nat) (l : List Nd), ls[i]? = some l → ∃ A c, hs[i]? = some (.slice A l.length c) ∧ Rd w A (ncells l)
theorem NLists.below {w w' : World} {hs : List Value} {ls : List (List Nd)} (h : NLists w hs ls) (hb : Below w.heap.size w w') : NLists w' hs ls := fun i l hi => by
  obtain ⟨A, c, h1, h2⟩ := h i l hi
  exact ⟨A, c, h1, h2.below hb⟩
theorem nhead_cell {w : World} {A : Option Addr} {hs : List Value} {rs : List (List Nd)} (hr : Rd w A hs) (h : NLists w hs rs) {j : Nat} (hj : j < rs.length) :
    ∃ b o A' c, A = some ⟨b, o, none⟩ ∧ w.cell? ⟨b, o + j, none⟩ = some (.slice A' rs[j].length c) ∧ Rd w A' (ncells rs[j]) := by
  obtain ⟨A', c, h1, h2⟩ := h j rs[j] (List.getElem?_eq_getElem hj)
  obtain ⟨b, o, rfl, hh⟩ := hr (fun e => by rw [e] at h1; simp at h1)
  exact ⟨b, o, A', c, rfl, hh j _ h1, h2⟩

set_option maxHeartbeats 4000000 in
set_option maxRecDepth 100000 in
theorem concatN_any (rs : List (List Nd)) (hs : List Value) (n c T : Nat) (A : Option Addr) (w : World) (hn : rs.length = n) (hA : Rd w A hs) (hR : NLists w hs rs) (hT : rs.flatten.length = T) (hb : T ≤ 1000000) (hn1 : n ≤ 1000000) :
    Calls Try.prog 16 #[.slice A n c] w fun e w' => ∃ A' c', e = .returned (.slice A' T c') ∧ Own w' w.heap.size 39 6 A' T c' (ncells rs.flatten) ∧ Below w.heap.size w w' := by
  have Hn := Lib.hid hn
  have HT := Lib.hid hT
  have Hb : Hid (rs.flatten.length ≤ 1000000) := by show _ ≤ _; rw [hT]; exact hb
  clear hn hT
  go_enter Try.func16, Try.ntmps16
  go_wp2_with fail
  go_loop [3, 11] (fun s i => ∃ j : Nat, j ≤ n ∧ s = .int .i64 ((rs.take j).flatten.length : Nat) ∧ i = .int .i64 j) (fun _ i => n - (intOf i).toNat)
  case atStart => exact ⟨0, by omega, by simp, rfl⟩
  case round =>
    obtain ⟨j, hj, rfl, rfl⟩ := hrel
    by_cases hlt : j < n
    · have hjl : j < rs.length := by rw [Hn.out]; exact hlt
      obtain ⟨b, o, E, d, rfl, c0, hr⟩ := nhead_cell hA hR hjl
      have hft := Lib.hid (congrArg List.length (flatN_take rs hjl))
      have hfl := flatN_le rs (j + 1)
      have hft' := hft.out
      rw [List.length_append] at hft'
      have hbb := Hb.out
      generalize hx : (rs.take j).flatten.length = x at *
      generalize hy : rs[j].length = y at *
      have h1 : x + y ≤ 1000000 := by omega
      have Hx := Lib.hid hx
      have Hft' := Lib.hid hft'
      clear hx hy hft' hfl hbb hA hR hr
      go_wp2_with fail
      go_round
      case rel => exact ⟨j + 1, by omega, by rw [Hft'.out]; go_num, by go_num⟩
      case measure => simp [intOf]; omega
    · obtain rfl : j = n := by omega
      have hta : (rs.take j).flatten = rs.flatten := by rw [List.take_of_length_le (by rw [Hn.out]; exact Nat.le_refl _)]
      rw [hta, HT.out]
      clear hta
      have hbb := hb
      go_wp2_with fail
      refine (growN_any T w hbb).mono ?_
      rintro e w1 ⟨A1, c1, rfl, ho1, hb1⟩
      have hz1 := hb1.size
      go_wp2_with fail
      go_loopw [6, 27] (fun s i wr => ∃ (j' : Nat) (A' : Option Addr) (c' : Nat), j' ≤ j ∧ s = .slice A' (rs.take j').flatten.length c' ∧ i = .int .i64 j' ∧ Own wr w.heap.size 39 6 A' (rs.take j').flatten.length c' (ncells (rs.take j').flatten) ∧ Below w.heap.size w wr) (fun _ i _ => j - (intOf i).toNat)
      case atStart => exact ⟨0, A1, c1, by omega, by simp, rfl, by simpa [ncells] using ho1, hb1⟩
      case round =>
        obtain ⟨q, A', c', hq, rfl, rfl, ho, hbr⟩ := hrel
        by_cases hlt : q < j
        · have hjl : q < rs.length := by rw [Hn.out]; exact hlt
          obtain ⟨b, o, E, d, rfl, c0, hr⟩ := nhead_cell (hA.below hbr) (hR.below hbr) hjl
          have hft := flatN_take rs hjl
          have Hftl := Lib.hid (congrArg List.length hft)
          have hys : Hid (ncells (rs.take q).flatten ++ ncells rs[q] = ncells (rs.take (q + 1)).flatten) := by
            show _ = _
            rw [hft, ncells_append]
          have hfl := flatN_le rs (q + 1)
          rw [hft, List.length_append, HT.out] at hfl
          have hsz := hbr.size
          have hlc := ncells_len rs[q]
          have hone := ncells_one rs[q]
          clear hft
          have hlen2 := Hftl.out
          rw [List.length_append] at hlen2
          have Hlen2 := Lib.hid hlen2
          clear hlen2 Hftl
          generalize rs[q] = y at *
          generalize hx : (rs.take q).flatten.length = x at *
          generalize hyl : y.length = yl at *
          have Hyl := Lib.hid hyl
          have Hx := Lib.hid hx
          clear hx hyl
          clear hA hR
          go_wp2_with (first | (at_builtin; refine hold ?_) | (at_make; refine hold ?_))
          (with_reducible refine unhold ?_)
          refine wpList_apd rfl _ _ _ rfl Enode w.heap.size _ x _ _ rfl ho _ yl _ (ncells y) rfl hlc hr hone (x + yl) rfl (ncells (rs.take (q + 1)).flatten) hys.out (by omega) (by omega) hsz ?_
          intro A2 c2 w2 ho2 hg2 _
          have hb2 : Below w.heap.size w w2 := hbr.grown hg2 hsz ho.row_ge
          go_wp2_with fail
          go_roundw
          case rel => exact ⟨q + 1, A2, c2, by omega, by rw [Hlen2.out], by go_num, by rw [Hlen2.out]; exact ho2, hb2⟩
          case measure => simp [intOf]; omega
        · obtain rfl : q = j := by omega
          have hta : (rs.take q).flatten = rs.flatten := by rw [List.take_of_length_le (by rw [Hn.out]; exact Nat.le_refl _)]
          rw [hta] at ho ⊢
          rw [HT.out] at ho ⊢
          go_wp2_with fail
          go_ret
          exact ⟨_, _, rfl, ho, hbr⟩

/-! ### Asked all together -/
def alwaysM : List Nd → Bool
  | [x] => decide (x.op = 1)
  | _ => false
def allM (a b : List Nd) : List Nd := if alwaysM b = true then a else if alwaysM a = true then b else and2 :: (a ++ b)
theorem alwaysM_one {l : List Nd} (h : l.length = 1) : ∃ x, l = [x] ∧ alwaysM l = decide (x.op = 1) := by
  match l, h with
  | [x], _ => exact ⟨x, rfl, rfl⟩
theorem alwaysM_many {l : List Nd} (h : ¬ l.length = 1) : alwaysM l = false := by
  match l, h with
  | [], _ => rfl
  | [x], h => exact absurd rfl h
  | x :: y :: t, _ => rfl
set_option maxRecDepth 100000 in
theorem always_c (l : List Nd) (A : Option Addr) (n c : Nat) (w : World) (hn : l.length = n) (hr : Rd w A (ncells l)) :
    Calls Try.prog 14 #[.slice A n c] w fun e w' => e = .returned (.bool (alwaysM l)) ∧ w = w' := by
  by_cases h1 : n = 1
  · subst h1
    obtain ⟨x, rfl, hx⟩ := alwaysM_one hn
    obtain ⟨b, o, rfl, c0, c1, c2, c3, c4, c5⟩ := node_cells hr (l := [x]) (j := 0) (n := x) rfl
    rw [hx]
    obtain ⟨op, col, kids, k, nn, s⟩ := x
    dsimp only at c0 hx ⊢
    have ho : (op == 1) = decide (op = 1) := by by_cases h : op = 1 <;> simp [h]
    clear hx hr hn c1 c2 c3 c4 c5
    rw [Nat.zero_mul, Nat.add_zero] at c0
    rw [← ho]
    clear ho
    go_enter Try.func14, Try.ntmps14
    go_wp2_with fail
    go_ret
    exact ⟨rfl, rfl⟩
  · have hI : ((n : Int) == 1) = false := by rw [beq_eq_false_iff_ne]; omega
    rw [alwaysM_many (by rw [hn]; exact h1)]
    clear hn hr
    go_enter Try.func14, Try.ntmps14
    go_wp2_with fail
    go_ret
    exact ⟨rfl, rfl⟩

theorem flat3 (a b : List Nd) : ([[and2], a, b] : List (List Nd)).flatten = and2 :: (a ++ b) := by simp
set_option maxHeartbeats 4000000 in
set_option maxRecDepth 100000 in
theorem all_c (a b : List Nd) (A B : Option Addr) (n m c c' : Nat) (w : World) (ha : a.length = n) (hb : b.length = m) (hA : Rd w A (ncells a)) (hB : Rd w B (ncells b)) (hn : n ≤ 1000) (hm : m ≤ 1000) :
    Calls Try.prog 6 #[.slice A n c, .slice B m c'] w fun e w' => (∃ X d, e = .returned (.slice X (allM a b).length d) ∧ Rd w' X (ncells (allM a b))) ∧ Below w.heap.size w w' := by
  have h1 := always_c b B m c' w hb hB
  have h2 := always_c a A n c w ha hA
  have hv : Hid (allM a b = if alwaysM b = true then a else if alwaysM a = true then b else and2 :: (a ++ b)) := rfl
  generalize allM a b = R at *
  cases e1 : alwaysM b
  · rw [e1] at h1
    rw [e1] at hv
    cases e2 : alwaysM a
    · rw [e2] at h2
      rw [e2] at hv
      obtain rfl : R = and2 :: (a ++ b) := hv.out
      have ho1 : Below w.heap.size w (w.alloc (.cells #[.int .u8 2, .int .i64 0, .int .i64 2, .int .u8 0, .int .i64 0, .string ⟨#[]⟩] 39)) := (Below.refl _ _).alloc (Nat.le_refl _) _
      have hz1 : (w.alloc (.cells #[.int .u8 2, .int .i64 0, .int .i64 2, .int .u8 0, .int .i64 0, .string ⟨#[]⟩] 39)).heap.size = w.heap.size + 1 := by rw [World.size_alloc]
      have hk1 := Blk.new w 39 #[.int .u8 2, .int .i64 0, .int .i64 2, .int .u8 0, .int .i64 0, .string ⟨#[]⟩]
      generalize hw1 : w.alloc (.cells #[.int .u8 2, .int .i64 0, .int .i64 2, .int .u8 0, .int .i64 0, .string ⟨#[]⟩] 39) = w1 at *
      have ho2 : Below w1.heap.size w1 (w1.alloc (.cells #[.slice (some ⟨w.heap.size, 0, none⟩) 1 1, .slice A n c, .slice B m c'] 23)) := (Below.refl _ _).alloc (Nat.le_refl _) _
      have hk2 := Blk.new w1 23 #[.slice (some ⟨w.heap.size, 0, none⟩) 1 1, .slice A n c, .slice B m c']
      have hL : NLists (w1.alloc (.cells #[.slice (some ⟨w.heap.size, 0, none⟩) 1 1, .slice A n c, .slice B m c'] 23)) [.slice (some ⟨w.heap.size, 0, none⟩) 1 1, .slice A n c, .slice B m c'] [[and2], a, b] := by
        intro i l hi
        match i with
        | 0 => cases hi; exact ⟨_, _, rfl, (Rd.of_blk hk1).below ho2⟩
        | 1 => cases hi; exact ⟨_, _, by rw [ha]; rfl, (hA.below ho1).below ho2⟩
        | 2 => cases hi; exact ⟨_, _, by rw [hb]; rfl, (hB.below ho1).below ho2⟩
        | i + 3 => cases hi
      have hcc := concatN_any [[and2], a, b] _ 3 3 (1 + (n + m)) (some ⟨w1.heap.size, 0, none⟩) _ rfl (Rd.of_blk hk2) hL (by rw [flat3, List.length_cons, List.length_append, ha, hb]; omega) (by omega) (by omega)
      rw [flat3, hz1] at hcc
      have hlen : Hid ((and2 :: (a ++ b)).length = 1 + (n + m)) := by show _ = _; rw [List.length_cons, List.length_append, ha, hb]; omega
      have Hcc := Lib.hid hcc
      have Hb2 := Lib.hid (ho1.trans (ho2.mono ho1.size))
      have Hw1 := Lib.hid hw1
      have h1 := Lib.hid h1
      have h2 := Lib.hid h2
      rw [hlen.out]
      generalize and2 :: (a ++ b) = R at *
      clear hcc hL hk1 hk2 ho1 ho2 hw1 hA hB hv e1 e2 ha hb
      go_enter Try.func6, Try.ntmps6
      go_wp2_with fail
      refine h1.out.mono ?_
      rintro e w2 ⟨rfl, rfl⟩
      go_wp2_with fail
      refine h2.out.mono ?_
      rintro e w2 ⟨rfl, rfl⟩
      go_wp2_with fail
      rw [Hw1.out]
      refine Hcc.out.mono ?_
      rintro e w3 ⟨X, d, rfl, ho3, hb3⟩
      go_wp2_with fail
      go_ret
      exact ⟨⟨X, d, rfl, ho3.rd⟩, Hb2.out.trans (hb3.mono Hb2.out.size)⟩
    · rw [e2] at h2
      rw [e2] at hv
      obtain rfl : R = b := hv.out
      rw [hb]
      have hc := Lib.hid (cloneN_any R m c' B w hb hB (by omega))
      have h1 := Lib.hid h1
      have h2 := Lib.hid h2
      clear hA hB hv e1 e2 ha hb
      go_enter Try.func6, Try.ntmps6
      go_wp2_with fail
      refine h1.out.mono ?_
      rintro e w2 ⟨rfl, rfl⟩
      go_wp2_with fail
      refine h2.out.mono ?_
      rintro e w2 ⟨rfl, rfl⟩
      go_wp2_with fail
      refine hc.out.mono ?_
      rintro e w3 ⟨X, d, rfl, ho3, hb3⟩
      go_wp2_with fail
      go_ret
      exact ⟨⟨X, d, rfl, ho3.rd⟩, hb3⟩
  · rw [e1] at h1
    rw [e1] at hv
    obtain rfl : R = a := hv.out
    rw [ha]
    have hc := Lib.hid (cloneN_any R n c A w ha hA (by omega))
    have h1 := Lib.hid h1
    clear hA hB hv e1 ha hb h2
    go_enter Try.func6, Try.ntmps6
    go_wp2_with fail
    refine h1.out.mono ?_
    rintro e w2 ⟨rfl, rfl⟩
    go_wp2_with fail
    refine hc.out.mono ?_
    rintro e w3 ⟨X, d, rfl, ho3, hb3⟩
    go_wp2_with fail
    go_ret
    exact ⟨⟨X, d, rfl, ho3.rd⟩, hb3⟩
end Go.Proofs.Ytipnglidepfkbaa
