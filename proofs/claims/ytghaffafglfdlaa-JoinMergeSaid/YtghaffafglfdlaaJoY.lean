/- Walks: rows laid one behind the other (slices.Concat). -/
import Derived.Test.YtghaffafglfdlaaJoX
import Derived.Lib.AppendZeros
namespace Go.Proofs.Ytghaffafglfdlaa
open Go.RowKit

attribute [local go_sem ↓] Go.wp_at_zero Go.wp_at_succ

theorem Eval : ElemT Try.prog 28 30 3 32 (.agg #[.int .u8 0, .int .i64 0, .string ⟨#[]⟩]) := ElemT.mk' (by kernel_rfl) (by kernel_rfl) rfl (by omega)
theorem Erow : ElemT Try.prog 22 28 1 24 (.slice none 0 0) := ElemT.mk' (by kernel_rfl) (by kernel_rfl) rfl (by omega)

theorem Own.base {w : World} {base base' : Nat} {e : TypeId} {size : Nat} {A : Option Addr} {n c : Nat} {xs : List Value} (h : Own w base e size A n c xs) (hb : base' ≤ base) : Own w base' e size A n c xs :=
  ⟨h.1, h.2.imp id fun ⟨g, cap, cur, hv, hg, rest⟩ => ⟨g, cap, cur, hv, Nat.le_trans hb hg, rest⟩⟩
set_option maxRecDepth 100000 in
theorem grow_nil (w : World) : Calls Try.prog 75 #[.slice none 0 0, .int .i64 0] w fun e w' => e = .returned (.slice none 0 0) ∧ w = w' := by
  go_enter Try.func75, Try.ntmps75
  go_wp2_with fail
  go_ret
  exact ⟨rfl, rfl⟩
set_option maxRecDepth 100000 in
theorem grow_pos (n : Nat) (w : World) (h0 : 0 < n) (hn : n ≤ 1000000) :
    Calls Try.prog 75 #[.slice none 0 0, .int .i64 (n : Int)] w fun e w' => ∃ A c, e = .returned (.slice A 0 c) ∧ Own w' w.heap.size 30 3 A 0 c [] ∧ Below w.heap.size w w' := by
  obtain ⟨hu, ⟨i, hi, hz, hs, hby⟩, hzs, hp⟩ := Eval
  have hrun := Lib.run_append_nil_zeros w 28 3 28 30 i _ .i64 .i64 hu Try.underlying3 hi hz n h0 (by rw [hs]; exact hp) (by omega) (by rw [hby]; omega)
  have hge := grownCap_ge w n 0 30
  have hcm : grownCap w n 0 30 ≤ maxLen := grownCap_le_maxLen w n 0 30 (by unfold maxLen; omega)
  generalize hcap : grownCap w n 0 30 = cap at *
  have hcap' := Lib.hid hcap
  clear hcap hi hz hs hby
  generalize hcs : (Builtin.zeroCells (Value.cells (.agg #[.int .u8 0, .int .i64 0, .string ⟨#[]⟩])) n ++ Builtin.zeroCells (Value.cells (.agg #[.int .u8 0, .int .i64 0, .string ⟨#[]⟩])) (cap - n)) = cs at *
  have hsz : Hid (cs.size = cap * 3) := by
    show _ = _
    rw [← hcs, Array.size_append, size_zeroCells, size_zeroCells, hzs]
    omega
  clear hcs hzs hp hu
  have hown : Hid (Own (w.drew.alloc (.cells cs 30)) w.heap.size 30 3 (some ⟨w.heap.size, 0, none⟩) 0 cap []) := World.ownsRow_made w.drew cs cap (Nat.le_refl _) hcm hsz.out
  have hb : Below w.heap.size w (w.drew.alloc (.cells cs 30)) := by go_grown
  unfold maxLen at hcm
  go_enter Try.func75, Try.ntmps75
  go_wp2_with (first | (at_builtin; refine hold ?_) | (at_make; refine hold ?_))
  (with_reducible refine unhold ?_)
  refine Lib.wpList_append_run _ rfl _ _ _ _ rfl _ _ rfl rfl _ _ hrun ?_
  clear hrun
  go_wp2_with fail
  go_ret
  exact ⟨_, _, rfl, hown.out, hb⟩

theorem grow_any (n : Nat) (w : World) (hn : n ≤ 1000000) :
    Calls Try.prog 75 #[.slice none 0 0, .int .i64 (n : Int)] w fun e w' => ∃ A c, e = .returned (.slice A 0 c) ∧ Own w' w.heap.size 30 3 A 0 c [] ∧ Below w.heap.size w w' := by
  by_cases h0 : n = 0
  · subst h0
    refine (grow_nil w).mono ?_
    rintro e w' ⟨rfl, rfl⟩
    exact ⟨none, 0, rfl, Own.nil _ _ _ _, Below.refl _ _⟩
  · exact grow_pos n w (by omega) hn

theorem flat_take (rs : List RowM) {j : Nat} (hj : j < rs.length) : (rs.take (j + 1)).flatten = (rs.take j).flatten ++ rs[j] := by
  rw [List.take_succ_eq_append_getElem hj, List.flatten_append, List.flatten_singleton]
theorem flat_le (rs : List RowM) (j : Nat) : (rs.take j).flatten.length ≤ rs.flatten.length := by
  have h := congrArg (fun l => l.flatten.length) (List.take_append_drop j rs)
  simp only [List.flatten_append, List.length_append] at h
  omega

set_option maxRecDepth 100000 in
theorem concat_any (rs : List RowM) (hs : List Value) (n c T : Nat) (A : Option Addr) (w : World) (hn : rs.length = n) (hA : Rd w A hs) (hR : Rows w hs rs) (hT : rs.flatten.length = T) (hb : T ≤ 1000000) (hn1 : n ≤ 1000000) :
    Calls Try.prog 65 #[.slice A n c] w fun e w' => ∃ A' c', e = .returned (.slice A' T c') ∧ Own w' w.heap.size 30 3 A' T c' (rcells rs.flatten) ∧ Below w.heap.size w w' := by
  have Hn := Lib.hid hn
  have HT := Lib.hid hT
  have Hb : Hid (rs.flatten.length ≤ 1000000) := by show _ ≤ _; rw [hT]; exact hb
  clear hn hT
  go_enter Try.func65, Try.ntmps65
  go_wp2_with fail
  go_loop [3, 11] (fun s i => ∃ j : Nat, j ≤ n ∧ s = .int .i64 ((rs.take j).flatten.length : Nat) ∧ i = .int .i64 j) (fun _ i => n - (intOf i).toNat)
  case atStart => exact ⟨0, by omega, by simp, rfl⟩
  case round =>
    obtain ⟨j, hj, rfl, rfl⟩ := hrel
    by_cases hlt : j < n
    · have hjl : j < rs.length := by rw [Hn.out]; exact hlt
      obtain ⟨b, o, E, d, rfl, c0, hcc, hcm, hr⟩ := head_cell hA hR hjl
      have hft := Lib.hid (congrArg List.length (flat_take rs hjl))
      have hfl := flat_le rs (j + 1)
      have hft' := hft.out
      rw [List.length_append] at hft'
      have hbb := Hb.out
      generalize hx : (rs.take j).flatten.length = x at *
      generalize hy : rs[j].length = y at *
      have h1 : x + y ≤ 1000000 := by omega
      have Hx := Lib.hid hx
      have Hft' := Lib.hid hft'
      clear hx hy hft' hfl hbb hA hR hr hcc hcm
      go_wp2_with fail
      go_round
      case rel => exact ⟨j + 1, by omega, by rw [Hft'.out]; go_num, by go_num⟩
      case measure => simp [intOf]; omega
    · obtain rfl : j = n := by omega
      have hta : (rs.take j).flatten = rs.flatten := by rw [List.take_of_length_le (by rw [Hn.out]; exact Nat.le_refl _)]
      rw [hta, HT.out]
      clear hta
      have hbb := hb
      go_wp2_with fail
      refine (grow_any T w hbb).mono ?_
      rintro e w1 ⟨A1, c1, rfl, ho1, hb1⟩
      have hz1 := hb1.size
      go_wp2_with fail
      go_loopw [6, 27] (fun s i wr => ∃ (j' : Nat) (A' : Option Addr) (c' : Nat), j' ≤ j ∧ s = .slice A' (rs.take j').flatten.length c' ∧ i = .int .i64 j' ∧ Own wr w.heap.size 30 3 A' (rs.take j').flatten.length c' (rcells (rs.take j').flatten) ∧ Below w.heap.size w wr) (fun _ i _ => j - (intOf i).toNat)
      case atStart => exact ⟨0, A1, c1, by omega, by simp, rfl, by simpa [rcells] using ho1, hb1⟩
      case round =>
        obtain ⟨q, A', c', hq, rfl, rfl, ho, hbr⟩ := hrel
        by_cases hlt : q < j
        · have hjl : q < rs.length := by rw [Hn.out]; exact hlt
          obtain ⟨b, o, E, d, rfl, c0, hcc, hcm, hr⟩ := head_cell (hA.below hbr) (hR.below hbr) hjl
          have hft := flat_take rs hjl
          have Hftl := Lib.hid (congrArg List.length hft)
          have hys : Hid (rcells (rs.take q).flatten ++ rcells rs[q] = rcells (rs.take (q + 1)).flatten) := by
            show _ = _
            rw [hft, rcells_append]
          have hfl := flat_le rs (q + 1)
          rw [hft, List.length_append, HT.out] at hfl
          have hsz := hbr.size
          have hlc := rcells_len rs[q]
          have hone := rcells_one rs[q]
          clear hft
          have hlen2 := Hftl.out
          rw [List.length_append] at hlen2
          have Hlen2 := Lib.hid hlen2
          clear hlen2 Hftl
          generalize rs[q] = y at *
          generalize hx : (rs.take q).flatten.length = x at *
          generalize hyl : y.length = yl at *
          have Hyl := Lib.hid hyl
          have Hx := Lib.hid hx
          clear hx hyl
          clear hA hR
          go_wp2_with (first | (at_builtin; refine hold ?_) | (at_make; refine hold ?_))
          (with_reducible refine unhold ?_)
          refine wpList_apd rfl _ _ _ rfl Eval w.heap.size _ x _ _ rfl ho _ yl _ (rcells y) rfl hlc hr hone (x + yl) rfl (rcells (rs.take (q + 1)).flatten) hys.out (by omega) (by omega) hsz ?_
          intro A2 c2 w2 ho2 hg2 _
          have hb2 : Below w.heap.size w w2 := hbr.grown hg2 hsz ho.row_ge
          go_wp2_with fail
          go_roundw
          case rel => exact ⟨q + 1, A2, c2, by omega, by rw [Hlen2.out], by go_num, by rw [Hlen2.out]; exact ho2, hb2⟩
          case measure => simp [intOf]; omega
        · obtain rfl : q = j := by omega
          have hta : (rs.take q).flatten = rs.flatten := by rw [List.take_of_length_le (by rw [Hn.out]; exact Nat.le_refl _)]
          rw [hta] at ho ⊢
          rw [HT.out] at ho ⊢
          go_wp2_with fail
          go_ret
          exact ⟨_, _, rfl, ho, hbr⟩

set_option maxRecDepth 100000 in
theorem both_any (x y : RowM) (n c n' c' : Nat) (A A' : Option Addr) (w : World) (hn : x.length = n) (hn' : y.length = n') (hr : Rd w A (rcells x)) (hr' : Rd w A' (rcells y)) (hc : n ≤ c ∧ c ≤ maxLen) (hc' : n' ≤ c' ∧ c' ≤ maxLen) (hx : ∀ v ∈ x, v.ok) (hy : ∀ v ∈ y, v.ok) (hb : n + n' ≤ 1000000) :
    Calls Try.prog 48 #[.slice A n c, .slice A' n' c'] w fun e w' => ∃ A2 c2, e = .returned (.slice A2 (n + n') c2) ∧ Own w' w.heap.size 30 3 A2 (n + n') c2 (rcells (x ++ y)) ∧ Below w.heap.size w w' := by
  have Hn := Lib.hid hn
  have Hn' := Lib.hid hn'
  have Hx := Lib.hid hx
  have Hy := Lib.hid hy
  have hb1 : Below w.heap.size w (w.alloc (.cells #[] 30)) := (Below.refl _ _).alloc (Nat.le_refl _) _
  have hb2 : Below w.heap.size w ((w.alloc (.cells #[] 30)).alloc (.cells #[.slice (some ⟨w.heap.size, 0, none⟩) 0 0, .slice A n c, .slice A' n' c'] 28)) := by go_grown
  have hrd := (Blk.new (w.alloc (.cells #[] 30)) 28 #[.slice (some ⟨w.heap.size, 0, none⟩) 0 0, .slice A n c, .slice A' n' c']).range
  rw [World.size_alloc] at hrd
  have hR : Rows ((w.alloc (.cells #[] 30)).alloc (.cells #[.slice (some ⟨w.heap.size, 0, none⟩) 0 0, .slice A n c, .slice A' n' c'] 28)) [.slice (some ⟨w.heap.size, 0, none⟩) 0 0, .slice A n c, .slice A' n' c'] [[], x, y] := by
    refine ⟨rfl, fun i r hi => ?_⟩
    match i with
    | 0 => cases hi; exact ⟨_, _, rfl, Nat.le_refl _, by unfold maxLen; omega, Rd.nil _ _, by simp⟩
    | 1 => cases hi; exact ⟨_, _, by rw [hn]; rfl, by rw [hn]; exact hc.1, hc.2, hr.below hb2, hx⟩
    | 2 => cases hi; exact ⟨_, _, by rw [hn']; rfl, by rw [hn']; exact hc'.1, hc'.2, hr'.below hb2, hy⟩
    | i + 3 => cases hi
  have hfl : ([[], x, y] : List RowM).flatten = x ++ y := by simp
  have hcc := concat_any [[], x, y] _ 3 3 (n + n') (some ⟨w.heap.size + 1, 0, none⟩) _ rfl (fun _ => ⟨_, _, rfl, hrd⟩) hR (by rw [hfl, List.length_append, hn, hn']) hb (by omega)
  rw [hfl] at hcc
  have Hcc := Lib.hid hcc
  clear hcc hR hrd hfl hn hn' hx hy hr hr' hb1
  go_enter Try.func48, Try.ntmps48
  go_wp2_with fail
  refine Hcc.out.mono ?_
  rintro e w3 ⟨A3, c3, rfl, ho3, hb3⟩
  go_wp2_with fail
  go_ret
  exact ⟨_, _, rfl, Own.base ho3 hb2.size, hb2.trans (hb3.mono hb2.size)⟩
end Go.Proofs.Ytghaffafglfdlaa
