/- Walks: where nodes end; why something can't be asked. -/
import Derived.Test.YtipnglidepfkbaaDoorMGrF
namespace Go.Proofs.YtipnglidepfkbaaDoor
set_option linter.unusedVariables false
set_option linter.unusedSimpArgs false
open Go.RowKit

attribute [local go_sem ↓] Go.wp_at_zero Go.wp_at_succ

theorem node_cells {w : World} {A : Option Addr} {l : List Nd} {j : Nat} {n : Nd} (hA : Rd w A (ncells l)) (h : l[j]? = some n) :
    ∃ b o, A = some ⟨b, o, none⟩ ∧ w.cell? ⟨b, o + j * 6, none⟩ = some (.int .u8 n.op) ∧ w.cell? ⟨b, o + j * 6 + 1, none⟩ = some (.int .i64 n.col) ∧ w.cell? ⟨b, o + j * 6 + 2, none⟩ = some (.int .i64 n.kids) ∧ w.cell? ⟨b, o + j * 6 + 3, none⟩ = some (.int .u8 n.v.k) ∧ w.cell? ⟨b, o + j * 6 + 4, none⟩ = some (.int .i64 n.v.n) ∧ w.cell? ⟨b, o + j * 6 + 5, none⟩ = some (.string (St8 n.v.s)) := by
  have hj := (List.getElem?_eq_some_iff.1 h).1
  obtain ⟨b, o, e, hr⟩ := hA (by intro e; have := congrArg List.length e; rw [ncells_len, List.length_nil] at this; omega)
  have key : ∀ t v, n.cells[t]? = some v → t < 6 → w.cell? ⟨b, o + j * 6 + t, none⟩ = some v := fun t v hv ht => by
    rw [Nat.add_assoc]
    exact hr (j * 6 + t) v (by rw [ncells_get l j n t h ht]; exact hv)
  exact ⟨b, o, e, key 0 _ rfl (by omega), key 1 _ rfl (by omega), key 2 _ rfl (by omega), key 3 _ rfl (by omega), key 4 _ rfl (by omega), key 5 _ rfl (by omega)⟩

theorem ends_zero (l : List Nd) : ends 0 l = decide (l = []) := by
  cases l with
  | nil => rfl
  | cons x t => simp [ends]

set_option maxHeartbeats 4000000 in
set_option maxRecDepth 100000 in
theorem end_any (l : List Nd) (L : Option Addr) (n c : Nat) (w : World) (hl : l.length = n) (hL : Rd w L (ncells l)) (hn : n ≤ 1000) (hk : ∀ x ∈ l, 0 ≤ x.parts ∧ x.parts ≤ 40) :
    Calls Tryd.prog 23 #[.slice L n c, .int .i64 0] w fun e w' => (∃ E : Nat, e = .returned (.int .i64 E) ∧ (E = n ↔ ends 1 l = true)) ∧ Below w.heap.size w w' := by
  have Hl := Lib.hid hl
  have HL := Lib.hid hL
  have Hk := Lib.hid hk
  clear hl hL hk
  go_enter Tryd.func23, Tryd.ntmps23
  go_wp2_with fail
  go_loopw [1, 5] (fun va vn wr => ∃ (j d : Nat), va = .int .i64 j ∧ vn = .int .i64 d ∧ j ≤ n ∧ d ≤ 1 + 40 * j ∧ Hid (ends 1 l = ends (d : Int) (l.drop j)) ∧ Hid (Below w.heap.size w wr)) (fun va _ _ => n - (intOf va).toNat)
  case atStart => exact ⟨0, 1, rfl, rfl, by omega, by omega, rfl, Below.refl _ _⟩
  case round =>
    obtain ⟨j, d, rfl, rfl, hj, hd, Heq, Hb⟩ := hrel
    by_cases hd0 : 0 < d
    · have hdI : (0 : Int) < (d : Int) := by omega
      by_cases hjn : j < n
      · have hjI : (j : Int) < (n : Int) := by omega
        have hjI0 : (0 : Int) ≤ (j : Int) := by omega
        have hjl : j < l.length := by rw [Hl.out]; exact hjn
        have hg := List.getElem?_eq_getElem hjl
        have hdr := List.drop_eq_getElem_cons hjl
        obtain ⟨b, o, rfl, c0, c1, c2, c3, c4, c5⟩ := node_cells (HL.out.below Hb.out) hg
        have hpx := Hk.out l[j] (List.getElem_mem hjl)
        have heq := Heq.out
        rw [hdr, ends, decide_eq_true hdI, Bool.true_and] at heq
        have hK := Lib.hid fun w' => kids_any l[j] w'
        generalize l[j] = x at *
        obtain ⟨op, col, kids, k, nn, s⟩ := x
        unfold Nd.agg at hK
        dsimp only at c0 c1 c2 c3 c4 c5 hK
        generalize (Nd.mk op col kids ⟨k, nn, s⟩).parts = P at *
        obtain ⟨p, rfl⟩ := Int.eq_ofNat_of_zero_le hpx.1
        have hw1 : IntKind.i64.wrap ((p : Int) - 1) = (p : Int) - 1 := by rw [IntKind.wrap_i64]; omega
        have hw2 : IntKind.i64.wrap ((d : Int) + ((p : Int) - 1)) = (d : Int) + ((p : Int) - 1) := by rw [IntKind.wrap_i64]; omega
        have Heq2 := Lib.hid heq
        clear heq hg hdr hjl Heq
        go_wp2_with fail
        refine (hK.out _).mono ?_
        rintro e w1 ⟨rfl, hb1⟩
        have Hb1 := Lib.hid (Hb.out.trans (hb1.mono Hb.out.size))
        clear hb1 c0 c1 c2 c3 c4 c5
        go_wp2_with fail
        go_roundw
        case rel => exact ⟨j + 1, d + p - 1, by go_num, by go_num, by omega, by omega, (by show _ = _; rw [Heq2.out]; congr 1; omega), Hb1⟩
        case measure => simp [intOf]; omega
      · obtain rfl : j = n := by omega
        have hf : Hid (ends 1 l = false) := by
          show _ = _
          rw [Heq.out, List.drop_eq_nil_of_le (by rw [Hl.out]; omega), ends]
          exact decide_eq_false (by omega)
        clear Heq
        go_wp2_with fail
        go_ret
        rw [hf.out]
        exact ⟨⟨j + 1, by go_num, by simp⟩, Hb.out⟩
    · obtain rfl : d = 0 := by omega
      have hf : Hid (j = n ↔ ends 1 l = true) := by
        show _ ↔ _
        rw [Heq.out, show ((0 : Nat) : Int) = 0 from rfl, ends_zero, decide_eq_true_iff, List.drop_eq_nil_iff, Hl.out]
        omega
      clear Heq
      go_wp2_with fail
      go_ret
      exact ⟨⟨j, rfl, hf.out⟩, Hb.out⟩

set_option maxRecDepth 100000 in
theorem right1_any (kinds : List Int) (K : Option Addr) (kn kc kb : Nat) (n : Nd) (w : World) (hK : Rd w K (kcells kinds)) (hkn : kinds.length = kn) (hs : n.v.s.length ≤ 1000000) (hkb : w.cell? ⟨kb, 0, none⟩ = some (.slice K kn kc)) :
    Calls Tryd.prog 21 #[n.agg, .pointer (some ⟨kb, 0, none⟩)] w fun e w' => e = .returned (.bool (!(mayN kinds n))) ∧ Below w.heap.size w w' := by
  have hm := Lib.hid (fun w' (hb : Below w.heap.size w w') => amay_any kinds K kn kc n w' (hK.below hb) hkn hs)
  obtain ⟨op, col, kids, k, nn, s⟩ := n
  generalize mayN kinds ⟨op, col, kids, k, nn, s⟩ = R at *
  unfold Nd.agg at hm ⊢
  dsimp only at hm ⊢
  have hb0 : Below w.heap.size w (w.alloc (.cells #[.int .u8 op, .int .i64 col, .int .i64 kids, .int .u8 k, .int .i64 nn, .string (St8 s)] 46)) := (Below.refl _ _).alloc (Nat.le_refl _) _
  have hk1 := cell_keep hb0 hkb
  have Hb0 := Lib.hid hb0
  have Hm := Lib.hid (hm.out _ hb0)
  clear hK hkn hs hkb hm hb0
  go_enter Tryd.func21, Tryd.ntmps21
  go_wp2_with fail
  refine Hm.out.mono ?_
  rintro e w1 ⟨rfl, hb1⟩
  go_wp2_with fail
  go_ret
  exact ⟨rfl, Hb0.out.trans (hb1.mono Hb0.out.size)⟩

set_option maxHeartbeats 4000000 in
set_option maxRecDepth 100000 in
theorem index_any (kinds : List Int) (K : Option Addr) (kn kc kb : Nat) (l : List Nd) (L : Option Addr) (n c : Nat) (w : World) (hK : Rd w K (kcells kinds)) (hkn : kinds.length = kn) (hs : ∀ x ∈ l, x.v.s.length ≤ 1000000) (hkb : w.cell? ⟨kb, 0, none⟩ = some (.slice K kn kc)) (hl : l.length = n) (hL : Rd w L (ncells l)) (hn : n ≤ 1000000) :
    Calls Tryd.prog 49 #[.slice L n c, .func (Fn.func 21) #[] #[.pointer (some ⟨kb, 0, none⟩)]] w fun e w' => (∃ i : Int, e = .returned (.int .i64 i) ∧ (0 ≤ i ↔ l.all (mayN kinds) = false)) ∧ Below w.heap.size w w' := by
  have Hl := Lib.hid hl
  have HL := Lib.hid hL
  have Hs := Lib.hid hs
  have Hr := Lib.hid (fun x (hx : x ∈ l) w' (hb : Below w.heap.size w w') => right1_any kinds K kn kc kb x w' (hK.below hb) hkn (hs x hx) (cell_keep hb hkb))
  clear hl hL hs hK hkn hkb
  go_enter Tryd.func49, Tryd.ntmps49
  go_wp2_with fail
  go_loopw [8] (fun vi wr => ∃ j : Nat, vi = .int .i64 j ∧ j ≤ n ∧ Hid ((l.take j).all (mayN kinds) = true) ∧ Hid (Below w.heap.size w wr)) (fun vi _ => n - (intOf vi).toNat)
  case atStart => exact ⟨0, rfl, by omega, rfl, Below.refl _ _⟩
  case round =>
    obtain ⟨j, rfl, hj, Hall, Hb⟩ := hrel
    by_cases hjn : j < n
    · have hjI : (j : Int) < (n : Int) := by omega
      have hjI0 : (0 : Int) ≤ (j : Int) := by omega
      have hjl : j < l.length := by rw [Hl.out]; exact hjn
      have hg := List.getElem?_eq_getElem hjl
      obtain ⟨b, o, rfl, c0, c1, c2, c3, c4, c5⟩ := node_cells (HL.out.below Hb.out) hg
      have hx := Hr.out l[j] (List.getElem_mem hjl) wr Hb.out
      have Htk := Lib.hid (List.take_succ_eq_append_getElem hjl)
      have Hmm := Lib.hid (List.getElem_mem hjl)
      generalize l[j] = x at *
      have hR : mayN kinds x = true ∨ mayN kinds x = false := by cases mayN kinds x <;> simp
      obtain ⟨op, col, kids, k, nn, s⟩ := x
      unfold Nd.agg at hx
      dsimp only at c0 c1 c2 c3 c4 c5 hx
      rcases hR with hR | hR
      · rw [hR] at hx
        have Hx := Lib.hid hx
        have HR := Lib.hid hR
        clear hx hg hjl hR
        go_wp2_with fail
        refine Hx.out.mono ?_
        rintro e w1 ⟨rfl, hb1⟩
        have Hb1 := Lib.hid (Hb.out.trans (hb1.mono Hb.out.size))
        go_wp2_with fail
        go_roundw
        case rel => exact ⟨j + 1, by go_num, by omega, (by show _ = _; rw [Htk.out, List.all_append, Hall.out]; simp [HR.out]), Hb1⟩
        case measure => simp [intOf]; omega
      · rw [hR] at hx
        have Hx := Lib.hid hx
        have HR : Hid (l.all (mayN kinds) = false) := by
          show _ = _
          rw [List.all_eq_false]
          exact ⟨_, Hmm.out, by rw [hR]; simp⟩
        clear hx hg hjl hR
        go_wp2_with fail
        refine Hx.out.mono ?_
        rintro e w1 ⟨rfl, hb1⟩
        have Hb1 := Lib.hid (Hb.out.trans (hb1.mono Hb.out.size))
        go_wp2_with fail
        go_ret
        exact ⟨⟨j, rfl, ⟨fun _ => HR.out, fun _ => by omega⟩⟩, Hb1.out⟩
    · have HR : Hid (l.all (mayN kinds) = true) := by
        have := Hall.out
        rw [List.take_of_length_le (by rw [Hl.out]; omega)] at this
        exact this
      go_wp2_with fail
      go_ret
      exact ⟨⟨-1, rfl, by rw [HR.out]; simp⟩, Hb.out⟩

set_option maxRecDepth 100000 in
theorem contains_any (kinds : List Int) (K : Option Addr) (kn kc kb : Nat) (l : List Nd) (L : Option Addr) (n c : Nat) (w : World) (hK : Rd w K (kcells kinds)) (hkn : kinds.length = kn) (hs : ∀ x ∈ l, x.v.s.length ≤ 1000000) (hkb : w.cell? ⟨kb, 0, none⟩ = some (.slice K kn kc)) (hl : l.length = n) (hL : Rd w L (ncells l)) (hn : n ≤ 1000000) :
    Calls Tryd.prog 20 #[.slice L n c, .func (Fn.func 21) #[] #[.pointer (some ⟨kb, 0, none⟩)]] w fun e w' => e = .returned (.bool (!(l.all (mayN kinds)))) ∧ Below w.heap.size w w' := by
  have hi := Lib.hid (index_any kinds K kn kc kb l L n c w hK hkn hs hkb hl hL hn)
  clear hK hs hkb hl hL
  go_enter Tryd.func20, Tryd.ntmps20
  go_wp2_with fail
  refine hi.out.mono ?_
  rintro e w1 ⟨⟨i, rfl, hR⟩, hb1⟩
  cases hA : l.all (mayN kinds)
  · have h0 : 0 ≤ i := hR.2 hA
    clear hR hi
    have HA := Lib.hid hA
    clear hA
    go_wp2_with fail
    go_ret
    rw [HA.out]
    exact ⟨rfl, hb1⟩
  · have h0 : ¬ 0 ≤ i := fun h => by rw [hR.1 h] at hA; cases hA
    have hd := decide_eq_false h0
    clear hR hi
    have HA := Lib.hid hA
    clear hA
    go_wp2_with fail
    go_ret
    rw [HA.out]
    exact ⟨rfl, hb1⟩

theorem may_parts {kinds : List Int} {x : Nd} (h : mayN kinds x = true) : 0 ≤ x.parts ∧ x.parts ≤ 40 := by
  unfold mayN at h
  unfold Nd.parts
  split at h
  · cases h
  · split at h
    · cases h
    · split at h
      · split <;> (try split) <;> omega
      · split at h
        · have := of_decide_eq_true h
          split <;> (try split) <;> omega
        · split <;> (try split) <;> omega

set_option maxHeartbeats 4000000 in
set_option maxRecDepth 100000 in
theorem aright_any (kinds : List Int) (K : Option Addr) (kn kc : Nat) (l : List Nd) (L : Option Addr) (n c : Nat) (w : World) (hK : Rd w K (kcells kinds)) (hkn : kinds.length = kn) (hs : ∀ x ∈ l, x.v.s.length ≤ 1000000) (hl : l.length = n) (hL : Rd w L (ncells l)) (hn : n ≤ 1000000) :
    Calls Tryd.prog 8 #[.slice K kn kc, .slice L n c] w fun e w' => e = .returned (.int .i64 (if rightN kinds l = true then 0 else 140)) ∧ Below w.heap.size w w' := by
  have hR : Hid (rightN kinds l = (decide (1 ≤ l.length ∧ l.length ≤ 40) && l.all (mayN kinds) && ends 1 l)) := rfl
  rw [hl] at hR
  have hb0 : Below w.heap.size w (w.alloc (.cells #[.slice K kn kc] 22)) := (Below.refl _ _).alloc (Nat.le_refl _) _
  have hc := Lib.hid (contains_any kinds K kn kc w.heap.size l L n c _ (hK.below hb0) hkn hs ((Blk.new w 22 #[.slice K kn kc]).cell 0) hl (hL.below hb0) hn)
  have Hb0 := Lib.hid hb0
  have he := Lib.hid (fun (hm : l.all (mayN kinds) = true) (hn40 : n ≤ 40) w' (hb : Below w.heap.size w w') => end_any l L n c w' hl (hL.below hb) (by omega) (fun x hx => may_parts (List.all_eq_true.1 hm x hx)))
  generalize rightN kinds l = R at *
  obtain ⟨V, hV⟩ : ∃ V : Int, V = if R = true then 0 else 140 := ⟨_, rfl⟩
  rw [← hV]
  have HV := Lib.hid hV
  clear hV
  clear hK hkn hs hl hL hb0
  by_cases h1 : n < 1
  · rw [decide_eq_false (by omega), Bool.false_and, Bool.false_and] at hR
    have h1I : (n : Int) < 1 := by omega
    clear he hc
    go_enter Tryd.func8, Tryd.ntmps8
    go_wp2_with fail
    go_ret
    rw [HV.out, hR.out]
    exact ⟨rfl, Hb0.out⟩
  · have h1I : ¬ (n : Int) < 1 := by omega
    by_cases h40 : 40 < n
    · rw [decide_eq_false (by omega), Bool.false_and, Bool.false_and] at hR
      have h40I : (40 : Int) < (n : Int) := by omega
      clear he hc
      go_enter Tryd.func8, Tryd.ntmps8
      go_wp2_with fail
      go_ret
      rw [HV.out, hR.out]
      exact ⟨rfl, Hb0.out⟩
    · rw [decide_eq_true (by omega), Bool.true_and] at hR
      have h40I : ¬ (40 : Int) < (n : Int) := by omega
      cases hA : l.all (mayN kinds)
      · rw [hA] at hR hc
        rw [Bool.false_and] at hR
        clear he hA
        go_enter Tryd.func8, Tryd.ntmps8
        go_wp2_with fail
        refine hc.out.mono ?_
        rintro e w1 ⟨rfl, hb1⟩
        go_wp2_with fail
        go_ret
        rw [HV.out, hR.out]
        exact ⟨rfl, Hb0.out.trans (hb1.mono Hb0.out.size)⟩
      · have He := Lib.hid (he.out hA (by omega))
        rw [hA] at hR hc
        rw [Bool.true_and] at hR
        clear he hA
        go_enter Tryd.func8, Tryd.ntmps8
        go_wp2_with fail
        refine hc.out.mono ?_
        rintro e w1 ⟨rfl, hb1⟩
        have Hb1 := Lib.hid (Hb0.out.trans (hb1.mono Hb0.out.size))
        clear hb1
        go_wp2_with fail
        refine (He.out _ Hb1.out).mono ?_
        rintro e w2 ⟨⟨E, rfl, hE⟩, hb2⟩
        have Hb2 := Lib.hid (Hb1.out.trans (hb2.mono Hb1.out.size))
        rw [← hR.out] at hE
        clear hb2 He hR
        cases R
        · have hne : ((E : Int) != (n : Int)) = true := by
            have : ¬ E = n := fun h => by have := hE.1 h; cases this
            simp
            omega
          clear hE
          go_wp2_with fail
          go_ret
          rw [HV.out]
          exact ⟨rfl, Hb2.out⟩
        · obtain rfl : E = n := hE.2 rfl
          clear hE
          go_wp2_with fail
          go_ret
          rw [HV.out]
          exact ⟨rfl, Hb2.out⟩
end Go.Proofs.YtipnglidepfkbaaDoor
