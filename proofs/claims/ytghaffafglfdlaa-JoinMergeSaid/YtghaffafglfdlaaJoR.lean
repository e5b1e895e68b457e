/- The reference's join, by looking at all. -/
import Derived.Test.YtghaffafglfdlaaJoN
namespace Go.Proofs.Ytghaffafglfdlaa
open Go.RowKit

attribute [local go_sem ↓] Go.wp_at_zero Go.wp_at_succ

theorem nestRow_snoc (l r : Int) (x y : RowM) (b : List RowM) : nestRow l r x (b ++ [y]) = nestRow l r x b ++ (if goes l r x y = true then [x ++ y] else []) := by
  unfold nestRow
  rw [List.filter_append, List.map_append]
  congr 1
  cases h : goes l r x y <;> simp [h]

set_option maxHeartbeats 4000000 in
set_option maxRecDepth 100000 in
theorem rnested_any (ra rb : List RowM) (ha hb : List Value) (n c n' c' : Nat) (A A' : Option Addr) (left right : Int) (w : World) (hn : ra.length = n) (hn' : rb.length = n') (hA : Rd w A ha) (hA' : Rd w A' hb) (hRa : Rows w ha ra) (hRb : Rows w hb rb)
    (hn1 : n ≤ 1000) (hn2 : n' ≤ 1000) (hb1 : ∀ r ∈ ra, r.length ≤ 1000) (hb2 : ∀ r ∈ rb, r.length ≤ 1000) :
    Calls Try.prog 9 #[.slice A n c, .slice A' n' c', .int .i64 left, .int .i64 right] w fun e w' => ∃ O oc oh L, e = .returned (.slice O L oc) ∧ (nested ra rb left right).length = L ∧ Own w' w.heap.size 28 1 O L oc oh ∧ RowsO w' w.heap.size oh (nested ra rb left right) ∧ Below w.heap.size w w' := by
  have Hn := Lib.hid hn
  have Hn' := Lib.hid hn'
  have Hb1 := Lib.hid hb1
  have Hb2 := Lib.hid hb2
  clear hn hn' hb1 hb2
  go_enter Try.func9, Try.ntmps9
  go_wp2_with fail
  go_loopw [9, 10] (fun s i wr => ∃ (j L : Nat) (O : Option Addr) (oc : Nat) (oh : List Value), j ≤ n ∧ i = .int .i64 j ∧ s = .slice O L oc ∧ Hid ((nested (ra.take j) rb left right).length = L) ∧ L ≤ j * n' ∧ Own wr w.heap.size 28 1 O L oc oh ∧ RowsO wr w.heap.size oh (nested (ra.take j) rb left right) ∧ Below w.heap.size w wr) (fun _ i _ => n - (intOf i).toNat)
  case atStart => exact ⟨0, 0, none, 0, [], by omega, rfl, rfl, rfl, by omega, Own.nil _ _ _ _, RowsO.nil _ _, Below.refl _ _⟩
  case round =>
    obtain ⟨j, L, O, oc, oh, hj, rfl, rfl, hL, hLj, ho, hor, hbr⟩ := hrel
    by_cases hlt : j < n
    · have hjl : j < ra.length := by rw [Hn.out]; exact hlt
      obtain ⟨X, d, hh1, hcc, hcm, hrX, hokX⟩ := hRa.at_ j ra[j] (List.getElem?_eq_getElem hjl)
      obtain ⟨b, o, rfl, hh⟩ := hA (fun e => by rw [e] at hh1; simp at hh1)
      have ca := hh j _ hh1
      have htk := Lib.hid (List.take_succ_eq_append_getElem (l := ra) (i := j) hjl)
      have hxl := Hb1.out _ (List.getElem_mem hjl)
      clear hh hh1
      generalize ra[j] = x at *
      generalize hx : x.length = xl at *
      have Hx := Lib.hid hx
      have HokX := Lib.hid hokX
      have Hca := Lib.hid ca
      have HrX := Lib.hid hrX
      clear hx hokX ca hrX hjl
      obtain ⟨wj, rfl⟩ : ∃ z : World, z = wr := ⟨_, rfl⟩
      have HL := hL
      go_wp2_with fail
      go_loopw [9, 11] (fun s i wr => ∃ (k L2 : Nat) (O : Option Addr) (oc : Nat) (oh : List Value), k ≤ n' ∧ i = .int .i64 k ∧ s = .slice O L2 oc ∧ Hid ((nested (ra.take j) rb left right ++ nestRow left right x (rb.take k)).length = L2) ∧ L2 ≤ j * n' + k ∧ Own wr w.heap.size 28 1 O L2 oc oh ∧ RowsO wr w.heap.size oh (nested (ra.take j) rb left right ++ nestRow left right x (rb.take k)) ∧ Below w.heap.size w wr) (fun _ i _ => n' - (intOf i).toNat)
      case atStart => exact ⟨0, L, O, oc, oh, by omega, rfl, rfl, by simpa [nestRow] using hL, by omega, ho, by simpa [nestRow] using hor, hbr⟩
      case round =>
        clear ho hor hbr hL hLj
        obtain ⟨k, L2, O, oc, oh, hk, rfl, rfl, hL2, hLk, ho, hor, hbr⟩ := hrel
        by_cases hlk : k < n'
        · have hkl : k < rb.length := by rw [Hn'.out]; exact hlk
          obtain ⟨Y, d', hh1, hcc', hcm', hrY, hokY⟩ := hRb.at_ k rb[k] (List.getElem?_eq_getElem hkl)
          obtain ⟨b', o', rfl, hh⟩ := hA' (fun e => by rw [e] at hh1; simp at hh1)
          have cb := cell_keep hbr (hh k _ hh1)
          have ca := cell_keep hbr Hca.out
          have htk' := Lib.hid (List.take_succ_eq_append_getElem (l := rb) (i := k) hkl)
          have hyl := Hb2.out _ (List.getElem_mem hkl)
          clear hh hh1
          generalize rb[k] = y at *
          generalize hy : y.length = yl at *
          have Hy := Lib.hid hy
          have HokY := Lib.hid hokY
          have hrXr := HrX.out.below hbr
          have hrYr := hrY.below hbr
          have hatx := Lib.hid (fun w' (h : Rd w' X (rcells x)) => at_ref x X xl d left w' Hx.out h)
          have haty := Lib.hid (fun w' (h : Rd w' Y (rcells y)) => at_ref y Y yl d' right w' hy h)
          have heq := Lib.hid (fun w' => equal_any (colAt x left) (colAt y right) w')
          have hgo : Hid (goes left right x y = decide (eqV (colAt x left) (colAt y right) = 2)) := rfl
          generalize eqV (colAt x left) (colAt y right) = E at *
          generalize colAt x left = vx at *
          generalize colAt y right = vy at *
          have hbd : Below wr.heap.size wr wr.drew := (Below.refl _ _).drew
          have hrXd : Hid (Rd wr.drew X (rcells x)) := hrXr.below hbd
          have hrYd : Hid (Rd wr.drew Y (rcells y)) := hrYr.below hbd
          clear hy hokY hrY hrXr hrYr hkl
          have cad : wr.drew.cell? ⟨b, o + j, none⟩ = some (.slice X xl d) := ca
          have cbd : wr.drew.cell? ⟨b', o' + k, none⟩ = some (.slice Y yl d') := cb
          have tok1 : True := trivial
          have hdec : (E == 2) = decide (E = 2) := by
            by_cases h : E = 2 <;> simp [h]
          go_wp2_with fail
          go_region_held3 (fun w' => w'.cell? ⟨b, o + j, none⟩ = some (.slice X xl d) ∧ w'.cell? ⟨b', o' + k, none⟩ = some (.slice Y yl d'))
            (first | exact ⟨ca, cb⟩ | exact ⟨cad, cbd⟩ | exact ⟨ca3, cb3⟩ | exact ⟨ca4, cb4⟩ | exact ⟨ca5, cb5⟩)
            (first | (go_at_call 19; have _t := tok1; refine (hatx.out _ hrXd.out).mono ?_; rintro e w3 ⟨rfl, hb3⟩; have ca3 := cell_keep hb3 cad; have cb3 := cell_keep hb3 cbd; have hrY3 := Lib.hid (hrYd.out.below hb3); clear tok1 _t) | (go_at_call 19; refine (haty.out _ hrY3.out).mono ?_; rintro e w4 ⟨rfl, hb4⟩; have ca4 := cell_keep hb4 ca3; have cb4 := cell_keep hb4 cb3) | (go_at_call 28; refine (heq.out _).mono ?_; rintro e w5 ⟨rfl, hb5⟩; have ca5 := cell_keep hb5 ca4; have cb5 := cell_keep hb5 cb4))
          have hbw5 : Below wr.heap.size wr w5 := by
            have h4 := hb3.trans (hb4.mono hb3.size)
            exact hbd.trans (h4.trans (hb5.mono h4.size))
          have hbw : Below w.heap.size w w5 := hbr.trans (hbw5.mono hbr.size)
          have ho5 := Own.below ho hbw5
          have hor5 := hor.below hbw5
          have hns := nestRow_snoc left right x y (rb.take k)
          rw [← htk'.out, hgo.out] at hns
          have hrX5 : Rd w5 X (rcells x) := ((hrXd.out.below hb3).below hb4).below hb5
          have hrY5 : Rd w5 Y (rcells y) := (hrY3.out.below hb4).below hb5
          clear hb3 hb4 hb5 hbd ca cb cad cbd ca3 cb3 ca4 cb4 ho hor hbr hgo hdec hbw5
          by_cases hE : E = 2
          · rw [decide_eq_true hE] at hns ⊢
            rw [if_pos rfl, ] at hns
            have Hns := Lib.hid hns
            have Hca5 := Lib.hid ca5
            clear hns hE
            have ho1 : Own (w5.alloc (.cells #[] 30)) w5.heap.size 30 3 (some ⟨w5.heap.size, 0, none⟩) 0 0 [] := World.ownsRow_made w5 #[] 0 (Nat.le_refl _) (by unfold maxLen; omega) rfl
            have hb51 : Below w5.heap.size w5 (w5.alloc (.cells #[] 30)) := (Below.refl _ _).alloc (Nat.le_refl _) _
            have ca51 := cell_keep hb51 ca5
            have cb51 := cell_keep hb51 cb5
            go_wp2_with (first | (at_builtin; refine hold ?_) | (at_make; refine hold ?_))
            (with_reducible refine unhold ?_)
            refine wpList_apd rfl _ _ _ rfl Eval w5.heap.size _ 0 _ [] rfl ho1 _ xl _ (rcells x) rfl (by rw [rcells_len, Hx.out]) (hrX5.below hb51) (rcells_one x) xl (Nat.zero_add _) (rcells x) rfl (by omega) (by omega) hb51.size ?_
            intro A6 c6 w6 ho6 hg6 _
            have hb6 : Below w5.heap.size w5 w6 := hb51.grown hg6 hb51.size ho1.row_ge
            have ca6 := cell_keep hb6 ca5
            have cb6 := cell_keep hb6 cb5
            clear ho1 hg6 ca51 cb51 hb51 ca5 cb5
            go_wp2_with (first | (at_builtin; refine hold ?_) | (at_make; refine hold ?_))
            (with_reducible refine unhold ?_)
            refine wpList_apd rfl _ _ _ rfl Eval w5.heap.size _ xl _ (rcells x) rfl ho6 _ yl _ (rcells y) rfl (by rw [rcells_len, Hy.out]) (hrY5.below hb6) (rcells_one y) (xl + yl) rfl (rcells (x ++ y)) (rcells_append x y).symm (by omega) (by omega) hb6.size ?_
            intro A7 c7 w7 ho7 hg7 _
            have hb7 : Below w5.heap.size w5 w7 := hb6.grown hg7 hb6.size ho6.row_ge
            have hbA : Below w7.heap.size w7 (w7.alloc (.cells #[.slice A7 (xl + yl) c7] 28)) := (Below.refl _ _).alloc (Nat.le_refl _) _
            have hnew := (Blk.new w7 28 #[.slice A7 (xl + yl) c7]).range
            have ho8 := Own.below (Own.below ho5 hb7) hbA
            have hor8 := (hor5.below hb7).below hbA
            have hrow8 := Own.base (Own.below ho7 hbA) hbw.size
            have hbw8 := (hbw.trans (hb7.mono hbw.size)).trans (hbA.mono (Nat.le_trans hbw.size hb7.size))
            clear ho6 hg7 hb6 ca6 cb6 hb7 ho5 hor5 hrX5 hrY5 hbw ho7 hbA
            have hLL : L2 ≤ 1001000 := by
              have h1 : j * n' ≤ 1000 * 1000 := Nat.mul_le_mul (show j ≤ 1000 by omega) hn2
              omega
            go_wp2_with (first | (at_builtin; refine hold ?_) | (at_make; refine hold ?_))
            (with_reducible refine unhold ?_)
            refine wpList_apd rfl _ _ _ rfl Erow w.heap.size _ L2 _ oh rfl ho8 _ 1 _ [.slice A7 (xl + yl) c7] rfl rfl (fun _ => ⟨_, _, rfl, hnew⟩) (by simp [Value.oneCell']) (L2 + 1) rfl (oh ++ [.slice A7 (xl + yl) c7]) rfl (by omega) (by omega) hbw8.size ?_
            intro A9 c9 w9 ho9 hg9 _
            have hk9 := ho8.apd_keeps hg9
            have hbw9 := hbw8.grown hg9 hbw8.size ho8.row_ge
            have hlen : (x ++ y).length = xl + yl := by rw [List.length_append, Hx.out, Hy.out]
            have hor9 := (hor8.keeps (by decide) hk9).snoc (r := x ++ y) (A := A7) (c := c7) (by rw [hlen]; exact Own.keeps hrow8 (by decide) hk9) (fun v hv => (List.mem_append.1 hv).elim (HokX.out v) (HokY.out v))
            rw [hlen, List.append_assoc, ← Hns.out] at hor9
            have Hor9 := Lib.hid hor9
            have hL9 : Hid ((nested (ra.take j) rb left right ++ nestRow left right x (rb.take (k + 1))).length = L2 + 1) := by
              show _ = _
              rw [Hns.out, ← List.append_assoc, List.length_append, hL2.out]
              rfl
            clear hor9 hlen hor8 hrow8 ho8 hbw8 hnew hk9 hg9
            go_wp2_with fail
            go_roundw
            case rel => exact ⟨k + 1, L2 + 1, A9, c9, _, by omega, by go_num, rfl, hL9, by omega, ho9, Hor9.out, hbw9⟩
            case measure => simp [intOf]; omega
          · rw [decide_eq_false hE] at hns ⊢
            rw [if_neg (by decide), List.append_nil] at hns
            have Hns := Lib.hid hns
            clear hns hE
            go_wp2_with fail
            go_roundw
            case rel => exact ⟨k + 1, L2, O, oc, oh, by omega, by go_num, rfl, by rw [Hns.out]; exact hL2.out, by omega, ho5, by rw [Hns.out]; exact hor5, hbw⟩
            case measure => simp [intOf]; omega
        · obtain rfl : k = n' := by omega
          have hta : rb.take k = rb := List.take_of_length_le (by rw [Hn'.out]; exact Nat.le_refl _)
          rw [hta, ← nested_snoc, ← htk.out] at hor hL2
          clear hta
          have Hor := Lib.hid hor
          clear hor
          go_wp2_with fail
          go_roundw
          case rel => exact ⟨j + 1, L2, O, oc, oh, by omega, by go_num, rfl, hL2.out, by rw [Nat.add_mul]; omega, ho, Hor.out, hbr⟩
          case measure => simp [intOf]; omega
    · obtain rfl : j = n := by omega
      rw [List.take_of_length_le (by rw [Hn.out]; exact Nat.le_refl _)] at hor hL
      go_wp2_with fail
      go_ret
      exact ⟨O, oc, oh, L, rfl, hL.out, ho, hor, hbr⟩
end Go.Proofs.Ytghaffafglfdlaa
