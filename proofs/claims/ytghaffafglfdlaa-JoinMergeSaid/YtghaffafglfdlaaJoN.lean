/- Rows joined by a table are those that go together, by looking at all. -/
import Derived.Test.YtghaffafglfdlaaJoU
namespace Go.Proofs.Ytghaffafglfdlaa
open Go.RowKit

attribute [local go_sem ↓] Go.wp_at_zero Go.wp_at_succ

theorem RowsO.base {w : World} {B B' : Nat} {hs : List Value} {rs : List RowM} (h : RowsO w B hs rs) (hb : B' ≤ B) : RowsO w B' hs rs :=
  ⟨h.len, fun i r hi => by
    obtain ⟨A, c, h1, h2, h3⟩ := h.at_ i r hi
    exact ⟨A, c, h1, Own.base h2 hb, h3⟩⟩
theorem goes_iff (l r : Int) (x y : RowM) : goes l r x y = decide (colAt y r = colAt x l ∧ (colAt x l).k ≠ 0) := by
  unfold goes eqV
  rw [decide_eq_decide]
  by_cases h1 : (colAt x l).k = 0
  · rw [if_pos (.inl h1)]
    simp [h1]
  · by_cases h2 : colAt x l = colAt y r
    · rw [if_neg (by rw [← h2]; exact fun h => h.elim h1 h1), if_pos h2]
      simp [h1, h2.symm]
    · constructor
      · intro h
        split at h
        · exact absurd h (by decide)
        · exact absurd h (by decide)
      · rintro ⟨h, _⟩
        exact absurd h.symm h2
theorem sel_goes {hs : List Value} {rs : List RowM} (h : hs.length = rs.length) (l r : Int) (x : RowM) : (selP (hs.zip rs) r (colAt x l)).map (fun p => x ++ p.2) = nestRow l r x rs := by
  unfold nestRow selP
  conv => rhs; rw [show rs = (hs.zip rs).map Prod.snd from (List.map_snd_zip (by omega)).symm]
  rw [List.filter_map, List.map_map]
  congr 1
  apply List.filter_congr
  intro p _
  exact (goes_iff l r x p.2).symm
theorem nestRow_le (l r : Int) (x : RowM) (b : List RowM) : (nestRow l r x b).length ≤ b.length := by
  unfold nestRow
  rw [List.length_map]
  exact List.length_filter_le ..
theorem nested_le (b : List RowM) (l r : Int) : ∀ a : List RowM, (nested a b l r).length ≤ a.length * b.length
  | [] => by simp [nested]
  | x :: a => by
    have h1 := nested_le b l r a
    have h2 := nestRow_le l r x b
    unfold nested at *
    rw [List.flatMap_cons, List.length_append, List.length_cons, Nat.add_mul]
    omega
theorem nested_snoc (a b : List RowM) (l r : Int) (x : RowM) : nested (a ++ [x]) b l r = nested a b l r ++ nestRow l r x b := by
  simp [nested]

set_option maxHeartbeats 4000000 in
set_option maxRecDepth 100000 in
theorem nested_any (ra rb : List RowM) (ha hb : List Value) (n c n' c' : Nat) (A A' : Option Addr) (left right : Int) (w : World) (hn : ra.length = n) (hn' : rb.length = n') (hA : Rd w A ha) (hA' : Rd w A' hb) (hRa : Rows w ha ra) (hRb : Rows w hb rb)
    (hn1 : n ≤ 1000) (hn2 : n' ≤ 1000) (hb1 : ∀ r ∈ ra, r.length ≤ 1000) (hb2 : ∀ r ∈ rb, r.length ≤ 1000) :
    Calls Try.prog 10 #[.slice A n c, .slice A' n' c', .int .i64 left, .int .i64 right] w fun e w' => ∃ O oc oh L, e = .returned (.slice O L oc) ∧ (nested ra rb left right).length = L ∧ Own w' w.heap.size 28 1 O L oc oh ∧ RowsO w' w.heap.size oh (nested ra rb left right) ∧ Below w.heap.size w w' := by
  have Hn := Lib.hid hn
  have Hn' := Lib.hid hn'
  have Hb1 := Lib.hid hb1
  have Hb2 := Lib.hid hb2
  have hmd := Lib.hid (made_any rb hb n' c' A' right w hn' hA' hRb (by omega))
  have hn3 := hn2
  rw [← hn'] at hn3
  have Hn3 := Lib.hid hn3
  clear hn hn' hb1 hb2 hn3 hA'
  go_enter Try.func10, Try.ntmps10
  go_wp2_with fail
  refine hmd.out.mono ?_
  rintro e wm ⟨tb, mb, rfl, hbt, hT, hbm⟩
  have hAm := hA.below hbm
  have hRam := hRa.below hbm
  have hRbm := hRb.below hbm
  have hzm := hbm.size
  clear hA hRa hRb hmd
  go_wp2_with fail
  go_loopw [9, 18] (fun s i wr => ∃ (j L : Nat) (O : Option Addr) (oc : Nat) (oh : List Value), j ≤ n ∧ i = .int .i64 j ∧ s = .slice O L oc ∧ Hid ((nested (ra.take j) rb left right).length = L) ∧ L ≤ j * n' ∧ Own wr wm.heap.size 28 1 O L oc oh ∧ RowsO wr wm.heap.size oh (nested (ra.take j) rb left right) ∧ Below wm.heap.size wm wr) (fun _ i _ => n - (intOf i).toNat)
  case atStart => exact ⟨0, 0, none, 0, [], by omega, rfl, rfl, rfl, by omega, Own.nil _ _ _ _, RowsO.nil _ _, Below.refl _ _⟩
  case round =>
    obtain ⟨j, L, O, oc, oh, hj, rfl, rfl, hL, hLj, ho, hor, hbr⟩ := hrel
    by_cases hlt : j < n
    · have hjl : j < ra.length := by rw [Hn.out]; exact hlt
      obtain ⟨E, d, hh1, hcc, hcm, hr, hok⟩ := hRam.at_ j ra[j] (List.getElem?_eq_getElem hjl)
      obtain ⟨b, o, rfl, hh⟩ := (hAm.below hbr) (fun e => by rw [e] at hh1; simp at hh1)
      have c0 := hh j _ hh1
      have htk := Lib.hid (List.take_succ_eq_append_getElem (l := ra) (i := j) hjl)
      have hxl := Hb1.out _ (List.getElem_mem hjl)
      clear hh hh1
      generalize ra[j] = x at *
      generalize hx : x.length = xl at *
      have Hx := Lib.hid hx
      have hLb : L ≤ 1000000 := Nat.le_trans hLj (Nat.le_trans (Nat.mul_le_mul (show j ≤ 1000 by omega) hn2) (by omega))
      have hadd := Lib.hid (add_any rb hb x xl d E right left wm wr w.heap.size tb mb (nested (ra.take j) rb left right) oh L oc O hRbm hbt hT hx hr ⟨hcc, hcm⟩ hok hbr ho hor hL.out hxl Hb2.out Hn3.out hLb)
      have hsg := Lib.hid (sel_goes hRbm.len left right x)
      have hnl := nestRow_le left right x rb
      rw [Hn'.out] at hnl
      have Hnl := Lib.hid hnl
      clear hx ho hor hr hcc hcm hok hnl hjl
      go_wp2_with fail
      refine hadd.out.mono ?_
      rintro e w3 ⟨O3, oc3, oh3, M, rfl, hM, ho3, hor3, hb3⟩
      rw [hsg.out, ← nested_snoc, ← htk.out] at hor3
      have hML : M = (nestRow left right x rb).length := by rw [hM, ← hsg.out, List.length_map]
      have hLM : Hid ((nested (ra.take (j + 1)) rb left right).length = L + M) := by
        show _ = _
        rw [htk.out, nested_snoc, List.length_append, hL.out, ← hML]
      have hLM2 : L + M ≤ (j + 1) * n' := by
        have := Hnl.out
        rw [Nat.add_mul]
        omega
      have Hor3 := Lib.hid hor3
      clear hM hML hor3
      go_wp2_with fail
      go_roundw
      case rel => exact ⟨j + 1, L + M, O3, oc3, oh3, by omega, by go_num, rfl, hLM, hLM2, ho3, Hor3.out, hb3⟩
      case measure => simp [intOf]; omega
    · obtain rfl : j = n := by omega
      rw [List.take_of_length_le (by rw [Hn.out]; exact Nat.le_refl _)] at hor hL
      go_wp2_with fail
      go_ret
      exact ⟨O, oc, oh, L, rfl, hL.out, Own.base ho hzm, hor.base hzm, hbm.trans (hbr.mono hzm)⟩
end Go.Proofs.Ytghaffafglfdlaa
