/- The walk of spans.add: a span more behind spans of the call's own. -/
import Derived.Test.YtjfpflnijkokaaaSwB
namespace Go.Proofs.Ytjfpflnijkokaaa
open Go.RowKit

attribute [local go_sem ↓] Go.wp_at_zero Go.wp_at_succ

theorem grown_set (w : World) (g i : Nat) (u : Value) : w.grownBy (w.setCell ⟨g, i, none⟩ u) (some g) := by
  refine ⟨rfl, rfl, rfl, ?_, fun k hk hn => ?_⟩
  · have := size_setCells g [u] i w
    exact Nat.le_of_eq this.symm
  · exact heap_setCell_other _ _ _ _ (fun e => hn (by rw [e]))
/-- A cell of a row of the call's own is set. -/
theorem Own.put {w : World} {base : Nat} {e : TypeId} {size g n c : Nat} {xs : List Value} (h : Own w base e size (some ⟨g, 0, none⟩) n c xs) {i : Nat} (hi : i < n * size) (u : Value) :
    Own (w.setCell ⟨g, i, none⟩ u) base e size (some ⟨g, 0, none⟩) n c (xs.set i u) ∧ w.grownBy (w.setCell ⟨g, i, none⟩ u) (some g) ∧ w.frozen? ⟨g, i, none⟩ = false := by
  have hl := h.1
  rcases h.2 with ⟨hv, _⟩ | ⟨g', cap, cur, hv, hg, hh, hnc, hcm, hcs, ht⟩
  · cases hv
  · injection hv with h1 h2 h3
    injection h1 with h1
    injection h1 with h1
    subst h1
    subst h3
    have hB : Blk w g e cur.toList := hh
    have hB2 := hB.set_ i u
    refine ⟨⟨by rw [List.length_set, hl], .inr ⟨g, c, (cur.toList.set i u).toArray, rfl, hg, hB2, hnc, hcm, ?_, ?_⟩⟩, ?_, hB.frozen i⟩
    · rw [List.size_toArray, List.length_set, Array.length_toList, hcs]
    · show List.take (n * size) (cur.toList.set i u) = _
      rw [← ht, List.take_set]
    · exact grown_set w g i u

/-- How add ends; r: the block of the slice that it was handed: of what was there nothing else has turned. -/
def AddOK (l : List SpanM) (s : SpanM) (B : Nat) (r : Option Nat) (w : World) (e : Ending) (w' : World) : Prop :=
  ∃ A' c', e = .returned (.slice A' (addS l s).length c') ∧ Own w' B 40 2 A' (addS l s).length c' (spc (addS l s)) ∧ w.grownBy w' r ∧ ((Value.slice A' (addS l s).length c').ownBlock = r ∨ ∃ k, (Value.slice A' (addS l s).length c').ownBlock = some k ∧ w.heap.size ≤ k)
theorem grown_below {w w1 : World} (hb : Below w.heap.size w w1) (r : Option Nat) : w.grownBy w1 r := ⟨hb.os, hb.tape, hb.output, hb.size, fun k hk _ => hb.block k hk⟩
theorem grown_after {w w1 w2 : World} {r : Option Nat} (hb : Below w.heap.size w w1) (hg : w1.grownBy w2 r) : w.grownBy w2 r :=
  ⟨hg.os.trans hb.os, hg.tape.trans hb.tape, hg.output.trans hb.output, Nat.le_trans hb.size hg.size, fun k hk hn => (hg.block k (Nat.lt_of_lt_of_le hk hb.size) hn).trans (hb.block k hk)⟩

theorem spc_snoc (l : List SpanM) (s : SpanM) : spc (l ++ [s]) = spc l ++ [.int .i64 s.1, .int .i64 s.2] := spc_append l [s]

/-- What comes behind an append. -/
theorem add_app {l : List SpanM} {a b : Int} {B n : Nat} {r : Option Nat} {w w1 : World} (hl : l.length = n) (hs : addS l (a, b) = l ++ [(a, b)]) {A' : Option Addr} {c' : Nat} (ho : Own w1 B 40 2 A' (n + 1) c' (spc l ++ [.int .i64 a, .int .i64 b])) (hk : w.grownBy w1 r) {k : Nat} (hr : (Value.slice A' (n + 1) c').ownBlock = r ∨ (Value.slice A' (n + 1) c').ownBlock = some k) (hz : w.heap.size ≤ k) :
    AddOK l (a, b) B r w (.returned (.slice A' (n + 1) c')) w1 := by
  have hr2 : (Value.slice A' (n + 1) c').ownBlock = r ∨ ∃ k, (Value.slice A' (n + 1) c').ownBlock = some k ∧ w.heap.size ≤ k := by
    rcases hr with h | h
    · exact .inl h
    · exact .inr ⟨k, h, hz⟩
  refine ⟨A', c', ?_, ?_, hk, by rw [hs, List.length_append, hl]; exact hr2⟩
  · rw [hs, List.length_append, hl]
    rfl
  · rw [hs, List.length_append, hl, spc_snoc]
    exact ho

set_option maxHeartbeats 8000000 in
set_option maxRecDepth 100000 in
theorem sadd_any (l : List SpanM) (a b : Int) (n c B : Nat) (A : Option Addr) (w : World) (hl : l.length = n) (ho : Own w B 40 2 A n c (spc l)) (hn : n ≤ 100000) (hB : B ≤ w.heap.size) :
    Calls Try.prog 27 #[.slice A n c, .agg #[.int .i64 a, .int .i64 b]] w fun e w' => AddOK l (a, b) B (Value.slice A n c).ownBlock w e w' := by
  have Hl := Lib.hid hl
  have hbl := Blk.new w 40 #[.int .i64 a, .int .i64 b]
  have hb0 : Below w.heap.size w (w.alloc (.cells #[.int .i64 a, .int .i64 b] 40)) := (Below.refl _ _).alloc (Nat.le_refl _) _
  have ho0 := ho.below hb0
  have hcap := ho.cap
  unfold maxLen at hcap
  have k0 := hbl.cell 0
  have k1 := hbl.cell 1
  simp only [List.getElem?_cons_zero, List.getElem?_cons_succ] at k0 k1
  have Ho0 := Lib.hid ho0
  have Hk0 := Lib.hid hb0
  have hz0 := Nat.le_trans hB hb0.size
  by_cases h1 : b ≤ a
  · have hs : addS l (a, b) = l := by unfold addS; rw [if_pos h1]
    have Hf : Hid (AddOK l (a, b) B (Value.slice A n c).ownBlock w (.returned (.slice A n c)) (w.alloc (.cells #[.int .i64 a, .int .i64 b] 40))) := by
      show AddOK _ _ _ _ _ _ _
      refine ⟨A, c, ?_, ?_, grown_below hb0 _, .inl (by rw [hs, hl])⟩
      · rw [hs, hl]
      · rw [hs, hl]
        exact ho0
    clear hs hbl hb0 ho0 ho hl hcap
    go_enter Try.func27, Try.ntmps27
    go_wp2_with fail
    go_ret
    exact Hf.out
  · by_cases hz : 0 < n
    · obtain ⟨l', t, rfl⟩ : ∃ l' t, l = l' ++ [t] := by
        rcases List.eq_nil_or_concat l with rfl | ⟨l', t, e⟩
        · simp at hl; omega
        · exact ⟨l', t, by rw [e, List.concat_eq_append]⟩
      have hl' : l'.length = n - 1 := by rw [List.length_append, List.length_singleton] at hl; omega
      obtain ⟨t1, t2⟩ := t
      obtain ⟨m, hm⟩ : ∃ m, n = m + 1 := ⟨n - 1, by omega⟩
      have hlm : l'.length = m := by omega
      obtain ⟨g, hA⟩ : ∃ g, A = some ⟨g, 0, none⟩ := by
        rcases ho.lies with ⟨_, h0, _⟩ | ⟨g, cur, hA, _⟩
        · omega
        · exact ⟨g, hA⟩
      subst hA
      obtain ⟨bk, o, e, d0, d1⟩ := ho0.rd.span (j := m) (by rw [List.length_append, hlm]; simp)
      cases e
      rw [List.getElem_concat_length (by omega)] at d0 d1
      simp only [Nat.zero_add] at d0 d1
      have hsub : (n : Int) - 1 = (m : Int) := by omega
      have hm0 : (0 : Int) ≤ (m : Int) := by omega
      have hmn : (m : Int) < (n : Int) := by omega
      have gz : decide (0 < n) = true := decide_eq_true hz
      by_cases h2 : a ≤ t2
      · have hs : addS (l' ++ [(t1, t2)]) (a, b) = l' ++ [(t1, max t2 b)] := by rw [addS_snoc, if_neg h1, if_pos h2]
        have hput := fun d => (show Own ((w.alloc (.cells #[.int .i64 a, .int .i64 b] 40)).drewN d) B 40 2 (some ⟨g, 0, none⟩) n c (spc (l' ++ [(t1, t2)])) from ho0).put (i := m * 2 + 1) (by omega) (.int .i64 (max t2 b))
        have hset : (spc (l' ++ [(t1, t2)])).set (m * 2 + 1) (.int .i64 (max t2 b)) = spc (l' ++ [(t1, max t2 b)]) := by
          rw [spc_snoc, spc_snoc, List.set_append_right _ _ (by rw [spc_len, hlm]; omega), spc_len, hlm]
          rw [show m * 2 + 1 - m * 2 = 1 from by omega]
          rfl
        have Hput : Hid (∀ d, AddOK (l' ++ [(t1, t2)]) (a, b) B (Value.slice (some ⟨g, 0, none⟩) n c).ownBlock w (.returned (.slice (some ⟨g, 0, none⟩) n c)) (((w.alloc (.cells #[.int .i64 a, .int .i64 b] 40)).drewN d).setCell ⟨g, m * 2 + 1, none⟩ (.int .i64 (max t2 b)))) := fun d => by
          obtain ⟨p1, p2, p3⟩ := hput d
          rw [hset] at p1
          have hln : (addS (l' ++ [(t1, t2)]) (a, b)).length = n := by rw [hs, List.length_append, hlm, hm]; rfl
          refine ⟨some ⟨g, 0, none⟩, c, by rw [hln], ?_, grown_after (below_drewN' hb0 d) p2, .inl rfl⟩
          rw [hln, hs]
          exact p1
        have hfr := (hput 0).2.2
        have hfr : (w.alloc (.cells #[.int .i64 a, .int .i64 b] 40)).frozen? ⟨g, m * 2 + 1, none⟩ = false := hfr
        have Hm := Lib.hid hm
        clear hs hbl hb0 ho0 ho hl hcap hput hset hz hl' hlm hm
        by_cases h3 : b ≤ t2
        · rw [show max t2 b = t2 by omega] at Hput
          go_enter Try.func27, Try.ntmps27
          go_wp2_with fail
          go_quiet (fail)
          go_wp2_with fail
          go_region
          go_wp2_with fail
          go_ret
          exact Hput.out _
        · rw [show max t2 b = b by omega] at Hput
          go_enter Try.func27, Try.ntmps27
          go_wp2_with fail
          go_quiet (fail)
          go_wp2_with fail
          go_region
          go_wp2_with fail
          go_ret
          exact Hput.out _
      · have g2 : decide (a ≤ t2) = false := decide_eq_false h2
        have hs : addS (l' ++ [(t1, t2)]) (a, b) = (l' ++ [(t1, t2)]) ++ [(a, b)] := by rw [addS_snoc, if_neg h1, if_neg h2]
        have Hs := Lib.hid hs
        have Hm := Lib.hid hm
        have hbA := fun d => (show Below w.heap.size w ((w.alloc (.cells #[.int .i64 a, .int .i64 b] 40)).drewN d) from below_drewN' hb0 d)
        clear hs hbl hb0 ho0 ho hl hz hl' hlm hm hcap
        go_enter Try.func27, Try.ntmps27
        go_wp2_with fail
        go_quiet (fail)
        go_wp2_with (first | (at_builtin; refine hold ?_) | (at_make; refine hold ?_))
        (with_reducible refine unhold ?_)
        have hW : Own ((w.alloc (.cells #[.int .i64 a, .int .i64 b] 40)).drewN nq) B 40 2 (some ⟨g, 0, none⟩) n c (spc (l' ++ [(t1, t2)])) := Ho0.out
        have hbW : Below ((w.alloc (.cells #[.int .i64 a, .int .i64 b] 40)).drewN nq).heap.size ((w.alloc (.cells #[.int .i64 a, .int .i64 b] 40)).drewN nq) (((w.alloc (.cells #[.int .i64 a, .int .i64 b] 40)).drewN nq).alloc (.cells #[.int .i64 a, .int .i64 b] 40)) := (Below.refl _ _).alloc (Nat.le_refl _) _
        have hnew := (Blk.new ((w.alloc (.cells #[.int .i64 a, .int .i64 b] 40)).drewN nq) 40 #[.int .i64 a, .int .i64 b]).range
        rw [show ((w.alloc (.cells #[.int .i64 a, .int .i64 b] 40)).drewN nq).heap.size = w.heap.size + 1 from Array.size_push _] at hnew
        have ho5 := Own.below hW hbW
        have hk5 := (below_drewN' Hk0.out nq).trans (hbW.mono (below_drewN' Hk0.out nq).size)
        have hz5 : B ≤ (((w.alloc (.cells #[.int .i64 a, .int .i64 b] 40)).drewN nq).alloc (.cells #[.int .i64 a, .int .i64 b] 40)).heap.size := Nat.le_trans hz0 hbW.size
        refine wpList_apd rfl _ _ _ rfl Espan B _ n _ (spc (l' ++ [(t1, t2)])) rfl ho5 _ 1 _ [.int .i64 a, .int .i64 b] rfl rfl (fun _ => ⟨_, _, rfl, hnew⟩) (by simp [Value.oneCell']) (n + 1) rfl _ rfl (by omega) (by omega) hz5 ?_
        intro A5 c5 w9 ho9 hg9 hw9
        have Hok := Lib.hid (add_app Hl.out Hs.out ho9 (grown_after hk5 hg9) hw9 hk5.size)
        clear ho9 hg9 hw9 ho5 hk5 hnew hW hbW
        go_wp2_with fail
        go_ret
        exact Hok.out
    · obtain rfl : n = 0 := by omega
      have hl0 : l = [] := List.eq_nil_of_length_eq_zero hl
      subst hl0
      have hs : addS [] (a, b) = [] ++ [(a, b)] := by rw [addS_nil, if_neg h1]; rfl
      have Hs := Lib.hid hs
      clear hs hbl hb0 ho0 ho hl hcap
      go_enter Try.func27, Try.ntmps27
      go_wp2_with fail
      go_quiet (fail)
      go_wp2_with (first | (at_builtin; refine hold ?_) | (at_make; refine hold ?_))
      (with_reducible refine unhold ?_)
      have hW : Own ((w.alloc (.cells #[.int .i64 a, .int .i64 b] 40)).drewN nq) B 40 2 A 0 c (spc []) := Ho0.out
      have hbW : Below ((w.alloc (.cells #[.int .i64 a, .int .i64 b] 40)).drewN nq).heap.size ((w.alloc (.cells #[.int .i64 a, .int .i64 b] 40)).drewN nq) (((w.alloc (.cells #[.int .i64 a, .int .i64 b] 40)).drewN nq).alloc (.cells #[.int .i64 a, .int .i64 b] 40)) := (Below.refl _ _).alloc (Nat.le_refl _) _
      have hnew := (Blk.new ((w.alloc (.cells #[.int .i64 a, .int .i64 b] 40)).drewN nq) 40 #[.int .i64 a, .int .i64 b]).range
      rw [show ((w.alloc (.cells #[.int .i64 a, .int .i64 b] 40)).drewN nq).heap.size = w.heap.size + 1 from Array.size_push _] at hnew
      have ho5 := Own.below hW hbW
      have hk5 := (below_drewN' Hk0.out nq).trans (hbW.mono (below_drewN' Hk0.out nq).size)
      have hz5 : B ≤ (((w.alloc (.cells #[.int .i64 a, .int .i64 b] 40)).drewN nq).alloc (.cells #[.int .i64 a, .int .i64 b] 40)).heap.size := Nat.le_trans hz0 hbW.size
      refine wpList_apd rfl _ _ _ rfl Espan B _ 0 _ (spc []) rfl ho5 _ 1 _ [.int .i64 a, .int .i64 b] rfl rfl (fun _ => ⟨_, _, rfl, hnew⟩) (by simp [Value.oneCell']) (0 + 1) rfl _ rfl (by omega) (by omega) hz5 ?_
      intro A5 c5 w9 ho9 hg9 hw9
      have Hok := Lib.hid (add_app Hl.out Hs.out ho9 (grown_after hk5 hg9) hw9 hk5.size)
      clear ho9 hg9 hw9 ho5 hk5 hnew hW hbW
      go_wp2_with fail
      go_ret
      exact Hok.out
end Go.Proofs.Ytjfpflnijkokaaa
