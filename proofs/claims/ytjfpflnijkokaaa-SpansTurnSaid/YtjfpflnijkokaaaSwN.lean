/- Walks: slices.ContainsFunc at spans; whether spans have a place: the program's. -/
import Derived.Test.YtjfpflnijkokaaaSwB
namespace Go.Proofs.Ytjfpflnijkokaaa
open Go.RowKit

attribute [local go_sem ↓] Go.wp_at_zero Go.wp_at_succ

def hitS (k : Int) (s : SpanM) : Bool := decide (s.1 ≤ k) && decide (k < s.2)
theorem hasS_hit (l : List SpanM) (k : Int) : hasS l k = l.any (hitS k) := rfl

set_option maxHeartbeats 4000000 in
set_option maxRecDepth 100000 in
theorem hasc_any (s1 s2 k : Int) (pb : Nat) (w : World) (hp : w.cell? ⟨pb, 0, none⟩ = some (.int .i64 k)) (hb : pb < w.heap.size) :
    Calls Try.prog 31 #[.agg #[.int .i64 s1, .int .i64 s2], .pointer (some ⟨pb, 0, none⟩)] w fun e w' => e = .returned (.bool (hitS k (s1, s2))) ∧ Below w.heap.size w w' := by
  have hb0 : Hid (Below w.heap.size w (w.alloc (.cells #[.int .i64 s1, .int .i64 s2] 40))) := (Below.refl _ _).alloc (Nat.le_refl _) _
  have hp2 : (w.alloc (.cells #[.int .i64 s1, .int .i64 s2] 40)).cell? ⟨pb, 0, none⟩ = some (.int .i64 k) := (hb0.out.cell (p := ⟨pb, 0, none⟩) hb).trans hp
  have k0 := (Blk.new w 40 #[.int .i64 s1, .int .i64 s2]).cell 0
  have k1 := (Blk.new w 40 #[.int .i64 s1, .int .i64 s2]).cell 1
  simp only [List.getElem?_cons_zero, List.getElem?_cons_succ] at k0 k1
  by_cases h1 : s1 ≤ k
  · have hr : hitS k (s1, s2) = decide (k < s2) := by unfold hitS; rw [decide_eq_true h1, Bool.true_and]
    rw [hr]
    clear hr hp
    go_enter Try.func31, Try.ntmps31
    go_wp2_with fail
    go_ret
    exact ⟨rfl, hb0.out⟩
  · have hr : hitS k (s1, s2) = false := by unfold hitS; rw [decide_eq_false h1, Bool.false_and]
    rw [hr]
    clear hr hp
    go_enter Try.func31, Try.ntmps31
    go_wp2_with fail
    go_ret
    exact ⟨rfl, hb0.out⟩

set_option maxHeartbeats 4000000 in
set_option maxRecDepth 100000 in
theorem indexs_any (k : Int) (pb : Nat) (l : List SpanM) (L : Option Addr) (n c : Nat) (w : World) (hp : w.cell? ⟨pb, 0, none⟩ = some (.int .i64 k)) (hb : pb < w.heap.size) (hl : l.length = n) (hL : Rd w L (spc l)) (hn : n ≤ 1000000) :
    Calls Try.prog 38 #[.slice L n c, .func (Fn.func 31) #[] #[.pointer (some ⟨pb, 0, none⟩)]] w fun e w' => (∃ i : Int, e = .returned (.int .i64 i) ∧ (0 ≤ i ↔ hasS l k = true)) ∧ Below w.heap.size w w' := by
  have Hl := Lib.hid hl
  have HL := Lib.hid hL
  have Hr := Lib.hid (fun (a b : Int) w' (hw : Below w.heap.size w w') => hasc_any a b k pb w' ((hw.cell (p := ⟨pb, 0, none⟩) hb).trans hp) (Nat.lt_of_lt_of_le hb hw.size))
  clear hl hL hp
  go_enter Try.func38, Try.ntmps38
  go_wp2_with fail
  go_loopw [8] (fun vi wr => ∃ j : Nat, vi = .int .i64 j ∧ j ≤ n ∧ Hid (hasS (l.take j) k = false) ∧ Hid (Below w.heap.size w wr)) (fun vi _ => n - (intOf vi).toNat)
  case atStart => exact ⟨0, rfl, by omega, rfl, Below.refl _ _⟩
  case round =>
    obtain ⟨j, rfl, hj, Hall, Hb⟩ := hrel
    by_cases hjn : j < n
    · have hjI : (j : Int) < (n : Int) := by omega
      have hjI0 : (0 : Int) ≤ (j : Int) := by omega
      have hjl : j < l.length := by rw [Hl.out]; exact hjn
      obtain ⟨b, o, rfl, c0, c1⟩ := (HL.out.below Hb.out).span hjl
      have hx := Hr.out l[j].1 l[j].2 wr Hb.out
      have Htk := Lib.hid (List.take_succ_eq_append_getElem hjl)
      have Hmm := Lib.hid (List.getElem_mem hjl)
      generalize l[j] = x at *
      obtain ⟨x1, x2⟩ := x
      dsimp only at c0 c1 hx
      cases hR : hitS k (x1, x2)
      · rw [hR] at hx
        have Hx := Lib.hid hx
        have HR := Lib.hid hR
        clear hx hR
        go_wp2_with fail
        refine Hx.out.mono ?_
        rintro e w1 ⟨rfl, hb1⟩
        have Hb1 := Lib.hid (Hb.out.trans (hb1.mono Hb.out.size))
        go_wp2_with fail
        go_roundw
        case rel => exact ⟨j + 1, by go_num, by omega, (by show _ = _; rw [Htk.out, hasS_hit, List.any_append, ← hasS_hit, Hall.out]; simp [HR.out]), Hb1⟩
        case measure => simp [intOf]; omega
      · rw [hR] at hx
        have Hx := Lib.hid hx
        have HR : Hid (hasS l k = true) := by
          show _ = _
          rw [hasS_hit, List.any_eq_true]
          exact ⟨_, Hmm.out, hR⟩
        clear hx hR
        go_wp2_with fail
        refine Hx.out.mono ?_
        rintro e w1 ⟨rfl, hb1⟩
        have Hb1 := Lib.hid (Hb.out.trans (hb1.mono Hb.out.size))
        go_wp2_with fail
        go_ret
        exact ⟨⟨j, rfl, ⟨fun _ => HR.out, fun _ => by omega⟩⟩, Hb1.out⟩
    · have HR : Hid (hasS l k = false) := by
        have := Hall.out
        rw [List.take_of_length_le (by rw [Hl.out]; omega)] at this
        exact this
      go_wp2_with fail
      go_ret
      exact ⟨⟨-1, rfl, by rw [HR.out]; simp⟩, Hb.out⟩

set_option maxRecDepth 100000 in
theorem conts_any (k : Int) (pb : Nat) (l : List SpanM) (L : Option Addr) (n c : Nat) (w : World) (hp : w.cell? ⟨pb, 0, none⟩ = some (.int .i64 k)) (hb : pb < w.heap.size) (hl : l.length = n) (hL : Rd w L (spc l)) (hn : n ≤ 1000000) :
    Calls Try.prog 30 #[.slice L n c, .func (Fn.func 31) #[] #[.pointer (some ⟨pb, 0, none⟩)]] w fun e w' => e = .returned (.bool (hasS l k)) ∧ Below w.heap.size w w' := by
  have hi := Lib.hid (indexs_any k pb l L n c w hp hb hl hL hn)
  clear hp hb hl hL
  go_enter Try.func30, Try.ntmps30
  go_wp2_with fail
  refine hi.out.mono ?_
  rintro e w1 ⟨⟨i, rfl, hR⟩, hb1⟩
  cases hA : hasS l k
  · have h0 : ¬ 0 ≤ i := fun h => by rw [hR.1 h] at hA; cases hA
    have hd := decide_eq_false h0
    clear hR hi
    have HA := Lib.hid hA
    clear hA
    go_wp2_with fail
    go_ret
    rw [HA.out]
    exact ⟨rfl, hb1⟩
  · have h0 : 0 ≤ i := hR.2 hA
    clear hR hi
    have HA := Lib.hid hA
    clear hA
    go_wp2_with fail
    go_ret
    rw [HA.out]
    exact ⟨rfl, hb1⟩

set_option maxHeartbeats 4000000 in
set_option maxRecDepth 100000 in
theorem shas_any (k : Int) (l : List SpanM) (L : Option Addr) (n c : Nat) (w : World) (hl : l.length = n) (hL : Rd w L (spc l)) (hn : n ≤ 1000000) :
    Calls Try.prog 20 #[.slice L n c, .int .i64 k] w fun e w' => e = .returned (.bool (rightS l && hasS l k)) ∧ Below w.heap.size w w' := by
  have hb0 : Hid (Below w.heap.size w (w.alloc (.cells #[.int .i64 k] 3))) := (Below.refl _ _).alloc (Nat.le_refl _) _
  have hp0 : (w.alloc (.cells #[.int .i64 k] 3)).cell? ⟨w.heap.size, 0, none⟩ = some (.int .i64 k) := by
    rw [(Blk.new w 3 #[.int .i64 k]).cell 0]
    rfl
  have hs0 : w.heap.size < (w.alloc (.cells #[.int .i64 k] 3)).heap.size := by rw [World.size_alloc]; omega
  have hri := Lib.hid (fun w' (h : Below w.heap.size w w') => sright_any l n c L w' hl (hL.below h) hn)
  have hco := Lib.hid (fun w' (h : Below (w.alloc (.cells #[.int .i64 k] 3)).heap.size (w.alloc (.cells #[.int .i64 k] 3)) w') => conts_any k w.heap.size l L n c w' ((h.cell (p := ⟨w.heap.size, 0, none⟩) hs0).trans hp0) (Nat.lt_of_lt_of_le hs0 h.size) hl ((hL.below hb0.out).below h) hn)
  clear hl hL hp0 hs0
  cases hR : rightS l
  · rw [hR] at hri
    clear hR hco
    rw [Bool.false_and]
    go_enter Try.func20, Try.ntmps20
    go_wp2_with fail
    refine (hri.out _ hb0.out).mono ?_
    rintro e w1 ⟨rfl, hb1⟩
    have Hb1 := Lib.hid (hb0.out.trans (hb1.mono hb0.out.size))
    clear hb1
    go_wp2_with fail
    go_ret
    exact ⟨rfl, Hb1.out⟩
  · rw [hR] at hri
    clear hR
    rw [Bool.true_and]
    go_enter Try.func20, Try.ntmps20
    go_wp2_with fail
    refine (hri.out _ hb0.out).mono ?_
    rintro e w1 ⟨rfl, hb1⟩
    have Hb1 := Lib.hid (hb0.out.trans (hb1.mono hb0.out.size))
    have Hc := Lib.hid (hco.out _ hb1)
    clear hb1
    go_wp2_with fail
    refine Hc.out.mono ?_
    rintro e w2 ⟨rfl, hb2⟩
    have Hb2 := Lib.hid (Hb1.out.trans (hb2.mono Hb1.out.size))
    clear hb2
    go_wp2_with fail
    go_ret
    exact ⟨rfl, Hb2.out⟩
end Go.Proofs.Ytjfpflnijkokaaa
