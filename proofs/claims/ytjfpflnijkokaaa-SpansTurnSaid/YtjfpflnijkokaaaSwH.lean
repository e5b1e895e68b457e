/- The walk of spans.Of: the spans of places. -/
import Derived.Test.YtjfpflnijkokaaaSwV
import Derived.Test.YtjfpflnijkokaaaSwF
namespace Go.Proofs.Ytjfpflnijkokaaa
open Go.RowKit

attribute [local go_sem ↓] Go.wp_at_zero Go.wp_at_succ

/-- How a function ends that tells spans, or why not: in memory of the call's own. -/
def ResOK (r : Option (List SpanM)) (w : World) (e : Ending) (w' : World) : Prop :=
  ((r = none ∧ e = .returned (.tuple #[.slice none 0 0, .int .i64 1])) ∨ ∃ (m : List SpanM) (A : Option Addr) (c : Nat), r = some m ∧ e = .returned (.tuple #[.slice A m.length c, .int .i64 0]) ∧ Own w' w.heap.size 40 2 A m.length c (spc m)) ∧ Below w.heap.size w w'
theorem ResOK.lower {r : Option (List SpanM)} {w w1 w' : World} {e : Ending} (hb : Below w.heap.size w w1) (h : ResOK r w1 e w') : ResOK r w e w' := by
  obtain ⟨h1, h2⟩ := h
  refine ⟨?_, hb.trans (h2.mono hb.size)⟩
  rcases h1 with h1 | ⟨m, A, c, h1, h3, h4⟩
  · exact .inl h1
  · exact .inr ⟨m, A, c, h1, h3, h4.lower hb.size⟩

def inR (k : Int) : Bool := decide (0 ≤ k) && decide (k < 4096)
def ofS (p : List Int) : Option (List SpanM) := if p.all inR = true then some (spansF (fun k => decide ((k : Int) ∈ p)) 4096) else none
theorem inR_iff (k : Int) : inR k = true ↔ 0 ≤ k ∧ k < 4096 := by unfold inR; simp
theorem all_in (p : List Int) : p.all inR = true ↔ ∀ k ∈ p, 0 ≤ k ∧ k < 4096 := by
  rw [List.all_eq_true]
  exact ⟨fun h k hk => (inR_iff k).1 (h k hk), fun h k hk => (inR_iff k).2 (h k hk)⟩
theorem ofS_none {p : List Int} {k : Int} (hk : k ∈ p) (h : ¬ (0 ≤ k ∧ k < 4096)) : ofS p = none := by
  unfold ofS
  rw [if_neg]
  intro e
  exact h ((all_in p).1 e k hk)
def sortP (p : List Int) : List Int := p.mergeSort fun x y => decide (x ≤ y)
theorem sortP_rise (p : List Int) : (sortP p).Pairwise (· ≤ ·) := by
  have h := List.pairwise_mergeSort (le := fun x y : Int => decide (x ≤ y)) (fun a b c h1 h2 => by
    simp only [decide_eq_true_eq] at *
    omega) (fun a b => by
    simp only [Bool.or_eq_true, decide_eq_true_eq]
    omega) p
  exact h.imp (fun h => by simpa using h)
def addsP (q : List Int) : List SpanM := (q.map fun k => (k, k + 1)).foldl addS []
theorem addsP_snoc (q : List Int) (k : Int) : addsP (q ++ [k]) = addS (addsP q) (k, k + 1) := by
  unfold addsP
  rw [List.map_append, List.foldl_append]
  rfl
set_option maxHeartbeats 16000000 in
set_option maxRecDepth 100000 in
theorem sof_any (p : List Int) (n c : Nat) (A : Option Addr) (w : World) (hl : p.length = n) (hr : Rd w A (icl p)) (hn : n ≤ 5000) :
    Calls Try.prog 10 #[.slice A n c] w fun e w' => ResOK (ofS p) w e w' := by
  have hv := Lib.hid (values_any A n c w)
  have hb0 : Below w.heap.size w (w.alloc (.cells #[.slice A n c] 22)) := (Below.refl _ _).alloc (Nat.le_refl _) _
  have hso := sorted_any p A n c w.heap.size w.heap.size (w.alloc (.cells #[.slice A n c] 22)) hl (by omega) (by rw [World.size_alloc]; omega) hb0.size (by
    rw [(Blk.new w 22 #[.slice A n c]).cell 0]
    rfl) (fun W' h => hr.below (hb0.trans h))
  have hQl : (sortP p).length = n := by rw [← hl]; exact List.length_mergeSort p
  have hQp : (sortP p).Perm p := List.mergeSort_perm p _
  have hQs := sortP_rise p
  change Calls _ _ _ _ (fun e w' => ∃ A' c', e = .returned (.slice A' n c') ∧ Own w' _ 3 1 A' n c' (icl (sortP p)) ∧ Below _ _ w') at hso
  have Hout : Hid (∀ k ∈ sortP p, ¬ (0 ≤ k ∧ k < 4096) → ofS p = none) := fun k hk h => ofS_none (hQp.mem_iff.1 hk) h
  have Hin : Hid ((∀ k ∈ sortP p, 0 ≤ k ∧ k < 4096) → ofS p = some (addsP (sortP p))) := fun h => by
    have h2 : ∀ k ∈ p, 0 ≤ k ∧ k < 4096 := fun k hk => h k (hQp.mem_iff.2 hk)
    unfold ofS
    rw [if_pos ((all_in p).2 h2)]
    unfold addsP
    rw [of_same hQp hQs h2]
  generalize sortP p = Q at *
  generalize ofS p = R at *
  have Hso := Lib.hid hso
  have Hb0 := Lib.hid hb0
  have HQl := Lib.hid hQl
  clear hso hb0 hQl hQp hQs hl hr
  go_enter Try.func10, Try.ntmps10
  go_wp2_with fail
  refine hv.out.mono ?_
  rintro e w1 ⟨rfl, rfl⟩
  go_wp2_with fail
  refine Hso.out.mono ?_
  rintro e w2 ⟨A2, c2, rfl, ho2, hb2⟩
  have Hrq := Lib.hid ho2.rd
  have Hb2 := Lib.hid (Hb0.out.trans (hb2.mono Hb0.out.size))
  clear ho2 hb2 Hso Hb0 hv
  go_wp2_with fail
  go_loopw [4, 11] (fun vo vi wr => ∃ (j m c' : Nat) (A' : Option Addr) (g : List SpanM), vo = .slice A' m c' ∧ vi = .int .i64 (j : Int) ∧ j ≤ n ∧ m ≤ j ∧ Hid (g.length = m) ∧ Hid (g = addsP (Q.take j)) ∧ Hid (∀ k ∈ Q.take j, 0 ≤ k ∧ k < 4096) ∧ Hid (Own wr w2.heap.size 40 2 A' m c' (spc g)) ∧ Hid (Below w2.heap.size w2 wr)) (fun _ vi _ => n - (intOf vi).toNat)
  case atStart => exact ⟨0, 0, 0, none, [], rfl, rfl, by omega, by omega, rfl, rfl, (fun k hk => by simp at hk), Own.nil _ _ _ _, Below.refl _ _⟩
  case round =>
    obtain ⟨j, m, c', A', g, rfl, rfl, hj, hmj, Hm, Hg, Hk, Ho, Hb⟩ := hrel
    by_cases hjn : j < n
    · have hjl : j < Q.length := by rw [HQl.out]; exact hjn
      have hjI : (j : Int) < (n : Int) := by omega
      have hj0 : (0 : Int) ≤ (j : Int) := by omega
      obtain ⟨bb, ob, rfl, c0⟩ := icl_at (Hrq.out.below Hb.out) hjl
      rw [List.getElem?_eq_getElem hjl] at c0
      have Hmem : Hid (Q[j] ∈ Q) := List.getElem_mem hjl
      have Htk : Hid (Q.take (j + 1) = Q.take j ++ [Q[j]]) := List.take_succ_eq_append_getElem hjl
      generalize Q[j] = k at *
      simp only [Option.getD_some] at c0
      by_cases h1 : k < 0
      · have hf : Hid (R = none) := Hout.out k Hmem.out (by omega)
        clear Ho Hm Hg Hk
        go_wp2_with fail
        go_ret2
        exact ⟨.inl ⟨hf.out, rfl⟩, Hb2.out.trans (Hb.out.mono Hb2.out.size)⟩
      · by_cases h2 : 4096 ≤ k
        · have hf : Hid (R = none) := Hout.out k Hmem.out (by omega)
          clear Ho Hm Hg Hk
          go_wp2_with fail
          go_ret2
          exact ⟨.inl ⟨hf.out, rfl⟩, Hb2.out.trans (Hb.out.mono Hb2.out.size)⟩
        · have Hadd := Lib.hid (sadd_any g k (k + 1) m c' w2.heap.size A' wr Hm.out Ho.out (by omega) Hb.out.size)
          have Hrge := Lib.hid Ho.out.row_ge
          have Hlen2 := addS_len g (k, k + 1)
          rw [Hm.out] at Hlen2
          have Hg2 : Hid (addS g (k, k + 1) = addsP (Q.take (j + 1))) := by
            show _ = _
            rw [Htk.out, addsP_snoc, Hg.out]
          have Hk2 : Hid (∀ t ∈ Q.take (j + 1), 0 ≤ t ∧ t < 4096) := fun t ht => by
            rw [Htk.out] at ht
            rcases List.mem_append.1 ht with ht | ht
            · exact Hk.out t ht
            · rw [List.mem_singleton.1 ht]
              omega
          clear Ho Hm Hg Hk Htk
          go_wp2_with fail
          refine Hadd.out.mono ?_
          rintro e w6 ⟨A6, c6, rfl, ho6, hg6, hrow6⟩
          have Hb6 := Lib.hid (Hb.out.grown hg6 Hb.out.size Hrge.out)
          have Ho6 := Lib.hid ho6
          generalize addS g (k, k + 1) = g2 at *
          obtain ⟨m2, hm2⟩ : ∃ m2, g2.length = m2 := ⟨_, rfl⟩
          rw [hm2] at Ho6 Hlen2 ⊢
          have HM2 := Lib.hid hm2
          clear hm2 ho6 hg6 hrow6 Hadd
          go_wp2_with fail
          go_roundw
          case rel => exact ⟨j + 1, m2, c6, A6, g2, rfl, by go_num, by omega, by omega, HM2, Hg2, Hk2, Ho6, Hb6⟩
          case measure => simp only [intOf, Int.toNat_natCast]; omega
    · obtain rfl : j = n := by omega
      have Htk : Hid (Q.take j = Q) := List.take_of_length_le (by rw [HQl.out]; exact Nat.le_refl _)
      have hres : Hid (R = some g) := by
        show _ = _
        rw [Hg.out, Htk.out]
        refine Hin.out fun k hk => Hk.out k ?_
        rw [Htk.out]
        exact hk
      have Hob : Hid (Own wr w.heap.size 40 2 A' g.length c' (spc g)) := by
        show Own _ _ _ _ _ _ _ _
        rw [Hm.out]
        exact Ho.out.lower Hb2.out.size
      have Hm2 : Hid (m = g.length) := Hm.out.symm
      clear Ho Hg Hk Hm
      go_wp2_with fail
      go_ret2
      rw [Hm2.out]
      exact ⟨.inr ⟨g, A', c', hres.out, rfl, Hob.out⟩, Hb2.out.trans (Hb.out.mono Hb2.out.size)⟩
end Go.Proofs.Ytjfpflnijkokaaa
