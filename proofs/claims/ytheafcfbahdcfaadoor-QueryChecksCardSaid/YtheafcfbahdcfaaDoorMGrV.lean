/- Walks: slices.Concat at numbers. Strings made of bytes, and bytes made of strings. -/
import Derived.Test.YtheafcfbahdcfaaDoorMGrG
import Derived.Lib.AppendZeros
import Derived.Deep.QuietTactic
import Derived.BigQuiet
import Derived.Test.YtheafcfbahdcfaaDoorMGrA
import Derived.Laws.IdiomStrings
namespace Go.Proofs.YtheafcfbahdcfaaDoor
set_option linter.unusedVariables false
set_option linter.unusedSimpArgs false
open Go.RowKit

attribute [local go_sem ↓] Go.wp_at_zero Go.wp_at_succ

theorem icl_len1 (l : List Int) : (icl l).length = l.length * 1 := by rw [icl_len, Nat.mul_one]

set_option maxRecDepth 100000 in
theorem growI_nil (w : World) : Calls Tryd.prog 53 #[.slice none 0 0, .int .i64 0] w fun e w' => e = .returned (.slice none 0 0) ∧ w = w' := by
  go_enter Tryd.func53, Tryd.ntmps53
  go_wp2_with fail
  go_ret
  exact ⟨rfl, rfl⟩
set_option maxRecDepth 100000 in
theorem growI_pos (n : Nat) (w : World) (h0 : 0 < n) (hn : n ≤ 1000000) :
    Calls Tryd.prog 53 #[.slice none 0 0, .int .i64 (n : Int)] w fun e w' => ∃ A c, e = .returned (.slice A 0 c) ∧ Own w' w.heap.size 3 1 A 0 c [] ∧ Below w.heap.size w w' := by
  obtain ⟨hu, ⟨i, hi, hz, hs, hby⟩, hzs, hp⟩ := Eint'
  have hrun := Lib.run_append_nil_zeros w 25 3 25 3 i _ .i64 .i64 hu Tryd.underlying3 hi hz n h0 (by rw [hs]; exact hp) (by omega) (by rw [hby]; omega)
  have hge := grownCap_ge w n 0 3
  have hcm : grownCap w n 0 3 ≤ maxLen := grownCap_le_maxLen w n 0 3 (by unfold maxLen; omega)
  generalize hcap : grownCap w n 0 3 = cap at *
  have hcap' := Lib.hid hcap
  clear hcap hi hz hs hby
  generalize hcs : (Builtin.zeroCells (Value.cells (.int .i64 0)) n ++ Builtin.zeroCells (Value.cells (.int .i64 0)) (cap - n)) = cs at *
  have hsz : Hid (cs.size = cap * 1) := by
    show _ = _
    rw [← hcs, Array.size_append, size_zeroCells, size_zeroCells, hzs]
    omega
  clear hcs hzs hp hu
  have hown : Hid (Own (w.drew.alloc (.cells cs 3)) w.heap.size 3 1 (some ⟨w.heap.size, 0, none⟩) 0 cap []) := World.ownsRow_made w.drew cs cap (Nat.le_refl _) hcm hsz.out
  have hb : Below w.heap.size w (w.drew.alloc (.cells cs 3)) := by go_grown
  unfold maxLen at hcm
  go_enter Tryd.func53, Tryd.ntmps53
  go_wp2_with (first | (at_builtin; refine hold ?_) | (at_make; refine hold ?_))
  (with_reducible refine unhold ?_)
  refine Lib.wpList_append_run _ rfl _ _ _ _ rfl _ _ rfl rfl _ _ hrun ?_
  clear hrun
  go_wp2_with fail
  go_ret
  exact ⟨_, _, rfl, hown.out, hb⟩
theorem growI_any (n : Nat) (w : World) (hn : n ≤ 1000000) :
    Calls Tryd.prog 53 #[.slice none 0 0, .int .i64 (n : Int)] w fun e w' => ∃ A c, e = .returned (.slice A 0 c) ∧ Own w' w.heap.size 3 1 A 0 c [] ∧ Below w.heap.size w w' := by
  by_cases h0 : n = 0
  · subst h0
    refine (growI_nil w).mono ?_
    rintro e w' ⟨rfl, rfl⟩
    exact ⟨none, 0, rfl, Own.nil _ _ _ _, Below.refl _ _⟩
  · exact growI_pos n w (by omega) hn

theorem flatI_take (rs : List (List Int)) {j : Nat} (hj : j < rs.length) : (rs.take (j + 1)).flatten = (rs.take j).flatten ++ rs[j] := by
  rw [List.take_succ_eq_append_getElem hj, List.flatten_append, List.flatten_singleton]
theorem flatI_le (rs : List (List Int)) (j : Nat) : (rs.take j).flatten.length ≤ rs.flatten.length := by
  have h := congrArg (fun l => l.flatten.length) (List.take_append_drop j rs)
  simp only [List.flatten_append, List.length_append] at h
  omega
/-- The headers hs are of lists of numbers. -/
def ILists (w : World) (hs : List Value) (ls : List (List Int)) : Prop :=
  ∀ (i : Nat) (l : List Int), ls[i]? = some l → ∃ A c, hs[i]? = some (.slice A l.length c) ∧ Rd w A (icl l)
theorem ILists.below {w w' : World} {hs : List Value} {ls : List (List Int)} (h : ILists w hs ls) (hb : Below w.heap.size w w') : ILists w' hs ls := fun i l hi => by
  obtain ⟨A, c, h1, h2⟩ := h i l hi
  exact ⟨A, c, h1, h2.below hb⟩
theorem ihead_cell {w : World} {A : Option Addr} {hs : List Value} {rs : List (List Int)} (hr : Rd w A hs) (h : ILists w hs rs) {j : Nat} (hj : j < rs.length) :
    ∃ b o A' c, A = some ⟨b, o, none⟩ ∧ w.cell? ⟨b, o + j, none⟩ = some (.slice A' rs[j].length c) ∧ Rd w A' (icl rs[j]) := by
  obtain ⟨A', c, h1, h2⟩ := h j rs[j] (List.getElem?_eq_getElem hj)
  obtain ⟨b, o, rfl, hh⟩ := hr (fun e => by rw [e] at h1; simp at h1)
  exact ⟨b, o, A', c, rfl, hh j _ h1, h2⟩

set_option maxHeartbeats 4000000 in
set_option maxRecDepth 100000 in
theorem concatI_any (rs : List (List Int)) (hs : List Value) (n c T : Nat) (A : Option Addr) (w : World) (hn : rs.length = n) (hA : Rd w A hs) (hR : ILists w hs rs) (hT : rs.flatten.length = T) (hb : T ≤ 1000000) (hn1 : n ≤ 1000000) :
    Calls Tryd.prog 35 #[.slice A n c] w fun e w' => ∃ A' c', e = .returned (.slice A' T c') ∧ Own w' w.heap.size 3 1 A' T c' (icl rs.flatten) ∧ Below w.heap.size w w' := by
  have Hn := Lib.hid hn
  have HT := Lib.hid hT
  have Hb : Hid (rs.flatten.length ≤ 1000000) := by show _ ≤ _; rw [hT]; exact hb
  clear hn hT
  go_enter Tryd.func35, Tryd.ntmps35
  go_wp2_with fail
  go_loop [3, 11] (fun s i => ∃ j : Nat, j ≤ n ∧ s = .int .i64 ((rs.take j).flatten.length : Nat) ∧ i = .int .i64 j) (fun _ i => n - (intOf i).toNat)
  case atStart => exact ⟨0, by omega, by simp, rfl⟩
  case round =>
    obtain ⟨j, hj, rfl, rfl⟩ := hrel
    by_cases hlt : j < n
    · have hjl : j < rs.length := by rw [Hn.out]; exact hlt
      obtain ⟨b, o, E, d, rfl, c0, hr⟩ := ihead_cell hA hR hjl
      have hft := Lib.hid (congrArg List.length (flatI_take rs hjl))
      have hfl := flatI_le rs (j + 1)
      have hft' := hft.out
      rw [List.length_append] at hft'
      have hbb := Hb.out
      generalize hx : (rs.take j).flatten.length = x at *
      generalize hy : rs[j].length = y at *
      have h1 : x + y ≤ 1000000 := by omega
      have Hx := Lib.hid hx
      have Hft' := Lib.hid hft'
      clear hx hy hft' hfl hbb hA hR hr
      go_wp2_with fail
      go_round
      case rel => exact ⟨j + 1, by omega, by rw [Hft'.out]; go_num, by go_num⟩
      case measure => simp [intOf]; omega
    · obtain rfl : j = n := by omega
      have hta : (rs.take j).flatten = rs.flatten := by rw [List.take_of_length_le (by rw [Hn.out]; exact Nat.le_refl _)]
      rw [hta, HT.out]
      clear hta
      have hbb := hb
      go_wp2_with fail
      refine (growI_any T w hbb).mono ?_
      rintro e w1 ⟨A1, c1, rfl, ho1, hb1⟩
      have hz1 := hb1.size
      go_wp2_with fail
      go_loopw [6, 27] (fun s i wr => ∃ (j' : Nat) (A' : Option Addr) (c' : Nat), j' ≤ j ∧ s = .slice A' (rs.take j').flatten.length c' ∧ i = .int .i64 j' ∧ Own wr w.heap.size 3 1 A' (rs.take j').flatten.length c' (icl (rs.take j').flatten) ∧ Below w.heap.size w wr) (fun _ i _ => j - (intOf i).toNat)
      case atStart => exact ⟨0, A1, c1, by omega, by simp, rfl, by simpa [icl] using ho1, hb1⟩
      case round =>
        obtain ⟨q, A', c', hq, rfl, rfl, ho, hbr⟩ := hrel
        by_cases hlt : q < j
        · have hjl : q < rs.length := by rw [Hn.out]; exact hlt
          obtain ⟨b, o, E, d, rfl, c0, hr⟩ := ihead_cell (hA.below hbr) (hR.below hbr) hjl
          have hft := flatI_take rs hjl
          have Hftl := Lib.hid (congrArg List.length hft)
          have hys : Hid (icl (rs.take q).flatten ++ icl rs[q] = icl (rs.take (q + 1)).flatten) := by
            show _ = _
            rw [hft, icl_append]
          have hfl := flatI_le rs (q + 1)
          rw [hft, List.length_append, HT.out] at hfl
          have hsz := hbr.size
          have hlc := icl_len1 rs[q]
          have hone := icl_one rs[q]
          clear hft
          have hlen2 := Hftl.out
          rw [List.length_append] at hlen2
          have Hlen2 := Lib.hid hlen2
          clear hlen2 Hftl
          generalize rs[q] = y at *
          generalize hx : (rs.take q).flatten.length = x at *
          generalize hyl : y.length = yl at *
          have Hyl := Lib.hid hyl
          have Hx := Lib.hid hx
          clear hx hyl
          clear hA hR
          go_wp2_with (first | (at_builtin; refine hold ?_) | (at_make; refine hold ?_))
          (with_reducible refine unhold ?_)
          refine wpList_apd rfl _ _ _ rfl Eint' w.heap.size _ x _ _ rfl ho _ yl _ (icl y) rfl hlc hr hone (x + yl) rfl (icl (rs.take (q + 1)).flatten) hys.out (by omega) (by omega) hsz ?_
          intro A2 c2 w2 ho2 hg2 _
          have hb2 : Below w.heap.size w w2 := hbr.grown hg2 hsz ho.row_ge
          go_wp2_with fail
          go_roundw
          case rel => exact ⟨q + 1, A2, c2, by omega, by rw [Hlen2.out], by go_num, by rw [Hlen2.out]; exact ho2, hb2⟩
          case measure => simp [intOf]; omega
        · obtain rfl : q = j := by omega
          have hta : (rs.take q).flatten = rs.flatten := by rw [List.take_of_length_le (by rw [Hn.out]; exact Nat.le_refl _)]
          rw [hta] at ho ⊢
          rw [HT.out] at ho ⊢
          go_wp2_with fail
          go_ret
          exact ⟨_, _, rfl, ho, hbr⟩
end Go.Proofs.YtheafcfbahdcfaaDoor
namespace Go.Proofs.YtheafcfbahdcfaaDoor
set_option linter.unusedVariables false
set_option linter.unusedSimpArgs false
open Go.RowKit

theorem run_str (w : World) (A : Option Addr) (l : List UInt8) (n c : Nat) (hn : l.length = n) (hr : Rd w A (Bs l)) :
    (convert 35 9 (.slice A n c)).run Tryd.prog w = .ok (.string (St8 l)) w := by
  subst hn
  have hs : Tryd.prog.underlying 35 = some (.slice 5) := by kernel_rfl
  have he : Tryd.prog.underlying 5 = some (.int .u8) := by kernel_rfl
  have hd : Tryd.prog.underlying 9 = some .string := by kernel_rfl
  cases l with
  | nil =>
    cases A with
    | none =>
      rw [run_convert_bytes_string w _ _ _ none _ c hs he hd]
      simp [Conv.bytesToString]
      rfl
    | some a => exact run_convert_bytes_back w _ _ _ a c [] hs he hd (by simp)
  | cons x l =>
    obtain ⟨b, o, rfl, h⟩ := hr (by simp)
    refine run_convert_bytes_back w _ _ _ ⟨b, o, none⟩ c (x :: l) hs he hd fun j hj => ?_
    have := h j (B ((x :: l)[j])) (by rw [List.getElem?_map, List.getElem?_eq_getElem hj]; rfl)
    rw [Addr.add_mid]
    exact this
/-- What a comparison of two strings comes to. -/
theorem St8_take (l : List UInt8) (n : Nat) : (St8 l).extract 0 n = St8 (l.take n) := by
  unfold St8
  ext1
  simp [ByteArray.data_extract]
theorem St8_append (l m : List UInt8) : St8 l ++ St8 m = St8 (l ++ m) := by
  unfold St8
  ext1
  simp

/-- Bytes made of a string: a row of the call's own. -/
theorem run_byt (w : World) (l : List UInt8) :
    ∃ c w', (convert 9 35 (.string (St8 l))).run Tryd.prog w = .ok (.slice (some ⟨w.heap.size, 0, none⟩) l.length c) w' ∧ w'.rangeAt w.heap.size 0 (Bs l) ∧ Below w.heap.size w w' ∧
      (∀ j, j < l.length → w'.frozen? ⟨w.heap.size, j, none⟩ = false) := by
  have hs : Tryd.prog.underlying 35 = some (.slice 5) := by kernel_rfl
  have he : Tryd.prog.underlying 5 = some (.int .u8) := by kernel_rfl
  have hd : Tryd.prog.underlying 9 = some .string := by kernel_rfl
  have h := run_bytes_of_string w 9 35 5 (St8 l) hd hs he
  rw [St8_size] at h
  have hh := heap_alloc_new w.drew (.cells (bytesRow (St8 l) (grownCap w l.length 0 5)) 5 ((bytesRow (St8 l) (grownCap w l.length 0 5)).size, (bytesRow (St8 l) (grownCap w l.length 0 5)).size + 1))
  have hrow : ∀ (j : Nat) (v : Value), (Bs l)[j]? = some v → (bytesRow (St8 l) (grownCap w l.length 0 5))[j]? = some v := by
    intro j v hj
    have hlt := (List.getElem?_eq_some_iff.1 hj).1
    rw [List.length_map] at hlt
    unfold bytesRow St8
    rw [Array.getElem?_append_left (by simpa using hlt)]
    rw [List.getElem?_map, List.getElem?_eq_getElem hlt] at hj
    simpa [hlt] using hj
  have hsz : l.length ≤ (bytesRow (St8 l) (grownCap w l.length 0 5)).size := by
    unfold bytesRow
    rw [Array.size_append, Array.size_map]
    have : (St8 l).data.size = l.length := St8_size l
    omega
  refine ⟨_, _, h, ?_, ?_, ?_⟩
  · intro j v hj
    rw [Nat.zero_add]
    exact (cell_of_row _ w.heap.size j _ _ _ hh).trans (hrow j v hj)
  · exact (Below.refl w.heap.size w).drew.alloc (Nat.le_refl _) _
  · intro j hj
    have hh' : (w.drew.alloc (.cells (bytesRow (St8 l) (grownCap w l.length 0 5)) 5 ((bytesRow (St8 l) (grownCap w l.length 0 5)).size, (bytesRow (St8 l) (grownCap w l.length 0 5)).size + 1))).heap[w.heap.size]? = _ := hh
    unfold World.frozen?
    rw [hh']
    simp
    omega
theorem range_set {w : World} {g : Nat} {l : List UInt8} (h : w.rangeAt g 0 (Bs l)) {j : Nat} (_hj : j < l.length) (c : UInt8) : (w.setCell ⟨g, j, none⟩ (B c)).rangeAt g 0 (Bs (l.set j c)) := by
  intro k v hk
  rw [Nat.zero_add]
  rw [List.getElem?_map, List.getElem?_set] at hk
  have hlt : ∀ m, m < l.length → ∃ u, w.cell? ⟨g, m, none⟩ = some u ∧ some u = (Bs l)[m]? := by
    intro m hm
    have hm' : (Bs l)[m]? = some (B l[m]) := by rw [List.getElem?_map, List.getElem?_eq_getElem hm]; rfl
    have := h m _ hm'
    rw [Nat.zero_add] at this
    exact ⟨_, this, hm'.symm⟩
  by_cases e : j = k
  · subst e
    rw [if_pos rfl, if_pos _hj] at hk
    obtain ⟨u, hu, _⟩ := hlt j _hj
    rw [World.cell?_setCell_same' _ _ _ (by rw [hu]; rfl)]
    exact hk
  · rw [if_neg e] at hk
    rw [World.cell?_setCell_other _ _ _ _ (by intro e'; injection e' with _ e' _; exact e e')]
    have hm : (Bs l)[k]? = some v := by rw [List.getElem?_map]; exact hk
    have := h k v hm
    rwa [Nat.zero_add] at this
end Go.Proofs.YtheafcfbahdcfaaDoor
