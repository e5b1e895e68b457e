/- Walks: of words their places among others. -/
import Derived.Test.YtphoccjeakdkeaaDwH
namespace Go.Proofs.Ytphoccjeakdkeaa
open Go.RowKit

attribute [local go_sem ↓] Go.wp_at_zero Go.wp_at_succ

/-- How Turn ends. -/
def TurnOK (f t : List (List UInt8)) (w : World) (e : Ending) (w' : World) : Prop :=
  ((turnM f t = none ∧ e = .returned (.tuple #[.slice none 0 0, .int .i64 1])) ∨ ∃ p A c, turnM f t = some p ∧ e = .returned (.tuple #[.slice A p.length c, .int .i64 0]) ∧ Rd w' A (icl p)) ∧ Below w.heap.size w w'

set_option maxHeartbeats 8000000 in
set_option maxRecDepth 100000 in
theorem dturn_any (f t : List (List UInt8)) (n m c c2 : Nat) (A A2 : Option Addr) (w : World) (hl : f.length = n) (hr : Rd w A (wcl f)) (hn : n ≤ 1000000) (hl2 : t.length = m) (hr2 : Rd w A2 (wcl t)) (hm : m ≤ 1000000) :
    Calls Try.prog 24 #[.slice A n c, .slice A2 m c2] w fun e w' => TurnOK f t w e w' := by
  have hri := Lib.hid (dright_any f n c A w hl hr hn)
  have hri2 := Lib.hid (fun q => dright_any t m c2 A2 (w.drewN q) hl2 (hr2.drewN q) hm)
  have Hl := Lib.hid hl
  have Hr := Lib.hid hr
  have Hl2 := Lib.hid hl2
  have Hr2 := Lib.hid hr2
  clear hl hr hl2 hr2
  cases hR : rightW f
  · have hf : Hid (turnM f t = none) := by show _ = _; unfold turnM; rw [if_neg (by rw [hR]; simp)]
    rw [hR] at hri
    clear hR
    go_enter Try.func24, Try.ntmps24
    go_wp2_with fail
    refine hri.out.mono ?_
    rintro e w1 ⟨rfl, q, rfl⟩
    go_wp2_with fail
    go_ret2
    exact ⟨.inl ⟨hf.out, rfl⟩, below_drewN' (Below.refl _ _) q⟩
  · cases hR2 : rightW t
    · have hf : Hid (turnM f t = none) := by show _ = _; unfold turnM; rw [if_neg (by rw [hR2]; simp)]
      rw [hR] at hri
      rw [hR2] at hri2
      clear hR hR2
      go_enter Try.func24, Try.ntmps24
      go_wp2_with fail
      refine hri.out.mono ?_
      rintro e w1 ⟨rfl, q, rfl⟩
      go_wp2_with fail
      refine (hri2.out q).mono ?_
      rintro e w1 ⟨rfl, q2, rfl⟩
      go_wp2_with fail
      go_ret2
      exact ⟨.inl ⟨hf.out, rfl⟩, below_drewN' (Below.refl _ _) _⟩
    · have hf : Hid (turnM f t = some (f.map (placeM t))) := by show _ = _; unfold turnM; rw [if_pos ⟨hR, hR2⟩]
      have hrt := Lib.hid hR2
      rw [hR] at hri
      rw [hR2] at hri2
      have hn2 : n ≤ 200 := by rw [← Hl.out]; exact (rightW_le hR).2
      clear hR hR2
      go_enter Try.func24, Try.ntmps24
      go_wp2_with fail
      refine hri.out.mono ?_
      rintro e w1 ⟨rfl, q, rfl⟩
      go_wp2_with fail
      refine (hri2.out q).mono ?_
      rintro e w1 ⟨rfl, q2, rfl⟩
      go_wp2_with fail
      go_loopw [6, 21] (fun vo vi wr => ∃ (j c' : Nat) (A' : Option Addr), vo = .slice A' j c' ∧ vi = .int .i64 (j : Int) ∧ j ≤ n ∧ Hid (Own wr w.heap.size 3 1 A' j c' (icl ((f.take j).map (placeM t)))) ∧ Hid (Below w.heap.size w wr)) (fun _ vi _ => n - (intOf vi).toNat)
      case atStart => exact ⟨0, 0, none, rfl, rfl, by omega, Own.nil _ _ _ _, below_drewN' (Below.refl _ _) _⟩
      case round =>
        obtain ⟨j, c', A', rfl, rfl, hj, Ho, Hb⟩ := hrel
        by_cases hjn : j < n
        · have hjl : j < f.length := by rw [Hl.out]; exact hjn
          have hjI : (j : Int) < (n : Int) := by omega
          have hj0 : (0 : Int) ≤ (j : Int) := by omega
          have hrw := Hr.out.below Hb.out
          obtain ⟨b, o, rfl, c0⟩ := hrw.word hjl
          have Hsn : Hid ((f.take (j + 1)).map (placeM t) = (f.take j).map (placeM t) ++ [placeM t f[j]]) := by
            show _ = _
            rw [List.take_succ_eq_append_getElem hjl, List.map_append, List.map_singleton]
          have hbs := Lib.hid (dfind_any t f[j] m c2 A2 wr Hl2.out (Hr2.out.below Hb.out) hm)
          have htf := turn_find hrt.out f[j]
          generalize placeM t f[j] = V at *
          generalize findM t f[j] = F at *
          generalize f[j] = x at *
          clear hrw hjl
          cases F with
          | none =>
            obtain rfl : V = -1 := htf.symm
            go_wp2_with fail
            refine hbs.out.mono ?_
            rintro e w4 ⟨rfl, q4, rfl⟩
            have Ho2 : Hid (Own (wr.drewN q4) w.heap.size 3 1 A' j c' (icl ((f.take j).map (placeM t)))) := Ho.out
            have Hb2 : Hid (Below w.heap.size w (wr.drewN q4)) := below_drewN' Hb.out q4
            have hbW : Below (wr.drewN q4).heap.size (wr.drewN q4) ((wr.drewN q4).alloc (.cells #[.int .i64 (-1)] 3)) := (Below.refl _ _).alloc (Nat.le_refl _) _
            have hnew := (Blk.new (wr.drewN q4) 3 #[.int .i64 (-1)]).range
            have ho5 := Own.below Ho2.out hbW
            have hb5 := Hb2.out.trans (hbW.mono Hb2.out.size)
            have hz5 := hb5.size
            clear hbW
            go_wp2_with (first | (at_builtin; refine hold ?_) | (at_make; refine hold ?_))
            (with_reducible refine unhold ?_)
            refine wpList_apd rfl _ _ _ rfl Eint' w.heap.size _ j _ (icl ((f.take j).map (placeM t))) rfl ho5 _ 1 _ [.int .i64 (-1)] rfl rfl (fun _ => ⟨_, _, rfl, hnew⟩) (by simp [Value.oneCell']) (j + 1) rfl _ rfl (by omega) (by omega) hz5 ?_
            intro A5 c5 w9 ho9 hg9 _
            have Hb9 := Lib.hid (hb5.grown hg9 hb5.size ho5.row_ge)
            have Ho9 : Hid (Own w9 w.heap.size 3 1 A5 (j + 1) c5 (icl ((f.take (j + 1)).map (placeM t)))) := by
              show Own _ _ _ _ _ _ _ _
              rw [Hsn.out, icl_snoc]
              exact ho9
            clear ho9 hg9 ho5 hb5 hnew Ho Hb Ho2 Hb2 Hsn
            go_wp2_with fail
            go_roundw
            case rel => exact ⟨j + 1, c5, A5, rfl, by go_num, by omega, Ho9, Hb9⟩
            case measure => simp only [intOf, Int.toNat_natCast]; omega
          | some k =>
            obtain rfl : V = (k : Int) := htf.symm
            go_wp2_with fail
            refine hbs.out.mono ?_
            rintro e w4 ⟨rfl, q4, rfl⟩
            have Ho2 : Hid (Own (wr.drewN q4) w.heap.size 3 1 A' j c' (icl ((f.take j).map (placeM t)))) := Ho.out
            have Hb2 : Hid (Below w.heap.size w (wr.drewN q4)) := below_drewN' Hb.out q4
            have hbW : Below (wr.drewN q4).heap.size (wr.drewN q4) ((wr.drewN q4).alloc (.cells #[.int .i64 (k : Int)] 3)) := (Below.refl _ _).alloc (Nat.le_refl _) _
            have hnew := (Blk.new (wr.drewN q4) 3 #[.int .i64 (k : Int)]).range
            have ho5 := Own.below Ho2.out hbW
            have hb5 := Hb2.out.trans (hbW.mono Hb2.out.size)
            have hz5 := hb5.size
            clear hbW
            go_wp2_with (first | (at_builtin; refine hold ?_) | (at_make; refine hold ?_))
            (with_reducible refine unhold ?_)
            refine wpList_apd rfl _ _ _ rfl Eint' w.heap.size _ j _ (icl ((f.take j).map (placeM t))) rfl ho5 _ 1 _ [.int .i64 (k : Int)] rfl rfl (fun _ => ⟨_, _, rfl, hnew⟩) (by simp [Value.oneCell']) (j + 1) rfl _ rfl (by omega) (by omega) hz5 ?_
            intro A5 c5 w9 ho9 hg9 _
            have Hb9 := Lib.hid (hb5.grown hg9 hb5.size ho5.row_ge)
            have Ho9 : Hid (Own w9 w.heap.size 3 1 A5 (j + 1) c5 (icl ((f.take (j + 1)).map (placeM t)))) := by
              show Own _ _ _ _ _ _ _ _
              rw [Hsn.out, icl_snoc]
              exact ho9
            clear ho9 hg9 ho5 hb5 hnew Ho Hb Ho2 Hb2 Hsn
            go_wp2_with fail
            go_roundw
            case rel => exact ⟨j + 1, c5, A5, rfl, by go_num, by omega, Ho9, Hb9⟩
            case measure => simp only [intOf, Int.toNat_natCast]; omega
        · obtain rfl : j = n := by omega
          have Htk := Lib.hid (List.take_of_length_le (l := f) (i := j) (by rw [Hl.out]; exact Nat.le_refl _))
          go_wp2_with fail
          go_ret2
          refine ⟨.inr ⟨_, A', c', hf.out, ?_, ?_⟩, Hb.out⟩
          · rw [List.length_map, Hl.out]
            rfl
          · have h1 := Ho.out.rd
            rw [Htk.out] at h1
            exact h1

set_option maxHeartbeats 8000000 in
set_option maxRecDepth 100000 in
theorem drturn_any (f t : List (List UInt8)) (n m c c2 : Nat) (A A2 : Option Addr) (w : World) (hl : f.length = n) (hr : Rd w A (wcl f)) (hn : n ≤ 1000000) (hl2 : t.length = m) (hr2 : Rd w A2 (wcl t)) (hm : m ≤ 1000000) :
    Calls Try.prog 29 #[.slice A n c, .slice A2 m c2] w fun e w' => TurnOK f t w e w' := by
  have hri := Lib.hid (drright_any f n c A w hl hr hn)
  have hri2 := Lib.hid (fun q => drright_any t m c2 A2 (w.drewN q) hl2 (hr2.drewN q) hm)
  have Hl := Lib.hid hl
  have Hr := Lib.hid hr
  have Hl2 := Lib.hid hl2
  have Hr2 := Lib.hid hr2
  clear hl hr hl2 hr2
  cases hR : rightW f
  · have hf : Hid (turnM f t = none) := by show _ = _; unfold turnM; rw [if_neg (by rw [hR]; simp)]
    rw [hR] at hri
    clear hR
    go_enter Try.func29, Try.ntmps29
    go_wp2_with fail
    refine hri.out.mono ?_
    rintro e w1 ⟨rfl, q, rfl⟩
    go_wp2_with fail
    go_ret2
    exact ⟨.inl ⟨hf.out, rfl⟩, below_drewN' (Below.refl _ _) q⟩
  · cases hR2 : rightW t
    · have hf : Hid (turnM f t = none) := by show _ = _; unfold turnM; rw [if_neg (by rw [hR2]; simp)]
      rw [hR] at hri
      rw [hR2] at hri2
      clear hR hR2
      go_enter Try.func29, Try.ntmps29
      go_wp2_with fail
      refine hri.out.mono ?_
      rintro e w1 ⟨rfl, q, rfl⟩
      go_wp2_with fail
      refine (hri2.out q).mono ?_
      rintro e w1 ⟨rfl, q2, rfl⟩
      go_wp2_with fail
      go_ret2
      exact ⟨.inl ⟨hf.out, rfl⟩, below_drewN' (Below.refl _ _) _⟩
    · have hf : Hid (turnM f t = some (f.map (placeM t))) := by show _ = _; unfold turnM; rw [if_pos ⟨hR, hR2⟩]
      have hrt := Lib.hid hR2
      rw [hR] at hri
      rw [hR2] at hri2
      have hn2 : n ≤ 200 := by rw [← Hl.out]; exact (rightW_le hR).2
      clear hR hR2
      go_enter Try.func29, Try.ntmps29
      go_wp2_with fail
      refine hri.out.mono ?_
      rintro e w1 ⟨rfl, q, rfl⟩
      go_wp2_with fail
      refine (hri2.out q).mono ?_
      rintro e w1 ⟨rfl, q2, rfl⟩
      go_wp2_with fail
      go_loopw [6, 7] (fun vo vi wr => ∃ (j c' : Nat) (A' : Option Addr), vo = .slice A' j c' ∧ vi = .int .i64 (j : Int) ∧ j ≤ n ∧ Hid (Own wr w.heap.size 3 1 A' j c' (icl ((f.take j).map (placeM t)))) ∧ Hid (Below w.heap.size w wr)) (fun _ vi _ => n - (intOf vi).toNat)
      case atStart => exact ⟨0, 0, none, rfl, rfl, by omega, Own.nil _ _ _ _, below_drewN' (Below.refl _ _) _⟩
      case round =>
        obtain ⟨j, c', A', rfl, rfl, hj, Ho, Hb⟩ := hrel
        by_cases hjn : j < n
        · have hjl : j < f.length := by rw [Hl.out]; exact hjn
          have hjI : (j : Int) < (n : Int) := by omega
          have hj0 : (0 : Int) ≤ (j : Int) := by omega
          have hrw := Hr.out.below Hb.out
          obtain ⟨b, o, rfl, c0⟩ := hrw.word hjl
          have Hsn : Hid ((f.take (j + 1)).map (placeM t) = (f.take j).map (placeM t) ++ [placeM t f[j]]) := by
            show _ = _
            rw [List.take_succ_eq_append_getElem hjl, List.map_append, List.map_singleton]
          have hbs := Lib.hid (place_any t f[j] m c2 A2 wr Hl2.out (Hr2.out.below Hb.out) hm)
          generalize placeM t f[j] = V at *
          generalize f[j] = x at *
          clear hrw hjl
          go_wp2_with fail
          refine hbs.out.mono ?_
          rintro e w4 ⟨rfl, rfl⟩
          have Ho2 := Ho
          have Hb2 := Hb
          have hbW : Below wr.heap.size wr (wr.alloc (.cells #[.int .i64 V] 3)) := (Below.refl _ _).alloc (Nat.le_refl _) _
          have hnew := (Blk.new wr 3 #[.int .i64 V]).range
          have ho5 := Own.below Ho2.out hbW
          have hb5 := Hb2.out.trans (hbW.mono Hb2.out.size)
          have hz5 := hb5.size
          clear hbW
          go_wp2_with (first | (at_builtin; refine hold ?_) | (at_make; refine hold ?_))
          (with_reducible refine unhold ?_)
          refine wpList_apd rfl _ _ _ rfl Eint' w.heap.size _ j _ (icl ((f.take j).map (placeM t))) rfl ho5 _ 1 _ [.int .i64 V] rfl rfl (fun _ => ⟨_, _, rfl, hnew⟩) (by simp [Value.oneCell']) (j + 1) rfl _ rfl (by omega) (by omega) hz5 ?_
          intro A5 c5 w9 ho9 hg9 _
          have Hb9 := Lib.hid (hb5.grown hg9 hb5.size ho5.row_ge)
          have Ho9 : Hid (Own w9 w.heap.size 3 1 A5 (j + 1) c5 (icl ((f.take (j + 1)).map (placeM t)))) := by
            show Own _ _ _ _ _ _ _ _
            rw [Hsn.out, icl_snoc]
            exact ho9
          clear ho9 hg9 ho5 hb5 hnew Ho Hb Ho2 Hb2 Hsn
          go_wp2_with fail
          go_roundw
          case rel => exact ⟨j + 1, c5, A5, rfl, by go_num, by omega, Ho9, Hb9⟩
          case measure => simp only [intOf, Int.toNat_natCast]; omega
        · obtain rfl : j = n := by omega
          have Htk := Lib.hid (List.take_of_length_le (l := f) (i := j) (by rw [Hl.out]; exact Nat.le_refl _))
          go_wp2_with fail
          go_ret2
          refine ⟨.inr ⟨_, A', c', hf.out, ?_, ?_⟩, Hb.out⟩
          · rw [List.length_map, Hl.out]
            rfl
          · have h1 := Ho.out.rd
            rw [Htk.out] at h1
            exact h1
end Go.Proofs.Ytphoccjeakdkeaa
