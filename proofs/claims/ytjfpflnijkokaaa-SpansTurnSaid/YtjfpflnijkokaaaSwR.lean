/- The walks of SpansOf, SpansTell. -/
import Derived.Test.YtjfpflnijkokaaaSwQ
namespace Go.Proofs.Ytjfpflnijkokaaa
open Go.RowKit

attribute [local go_sem ↓] Go.wp_at_zero Go.wp_at_succ

theorem icl_one (l : List Int) : ∀ u ∈ icl l, u.oneCell' = true := by
  intro u hu
  obtain ⟨x, _, rfl⟩ := List.mem_map.1 hu
  rfl
theorem icl_left {p : List Int} {A : Option Addr} {w : World} (k : Nat) (hr : Rd w A (icl p)) : Rd w A (icl (p.take k)) := by
  have h : icl p = icl (p.take k) ++ icl (p.drop k) := by rw [← icl_append, List.take_append_drop]
  rw [h] at hr
  intro hne
  obtain ⟨b, o, e, hr'⟩ := hr (fun e => hne (List.append_eq_nil_iff.1 e).1)
  exact ⟨b, o, e, fun j v hj => hr' j v (by rw [List.getElem?_append_left (List.getElem?_eq_some_iff.1 hj).1]; exact hj)⟩
theorem own0 (w : World) (e : TypeId) (size : Nat) : Own (w.alloc (.cells #[] e)) w.heap.size e size (some ⟨w.heap.size, 0, none⟩) 0 0 [] := World.ownsRow_made w #[] 0 (Nat.le_refl _) (by unfold maxLen; omega) (by simp)

set_option maxHeartbeats 8000000 in
set_option maxRecDepth 100000 in
theorem spansof_walk (p : List Int) (n c : Nat) (A : Option Addr) (w : World) (hl : p.length = n) (hr : Rd w A (icl p)) (hnc : n ≤ c) (hc : c ≤ 9223372036854775807) :
    Calls Try.prog 3 #[.slice A n c] w fun e w' => e = .returned (.bool true) ∧ Below w.heap.size w w' := by
  have hR := icl_left 1000 hr
  obtain ⟨F, hF⟩ : ∃ F, (p.take 1000).length = F := ⟨_, rfl⟩
  have hF2 : min n 1000 = F := by rw [← hF, List.length_take, hl, Nat.min_comm]
  have hm : min (n : Int) 1000 = (F : Int) := by omega
  have hFc : F ≤ c := by omega
  have hF3 : F ≤ 1000 := by omega
  generalize p.take 1000 = P at *
  have HF := Lib.hid hF
  have HR := Lib.hid hR
  clear hl hr hnc hF hF2 hR
  have hres : (ofS P = none ∧ ∃ z : Int, z = 1) ∨ ∃ m, ofS P = some m := by
    cases ofS P with
    | none => exact .inl ⟨rfl, 1, rfl⟩
    | some m => exact .inr ⟨m, rfl⟩
  rcases hres with ⟨hof, _⟩ | ⟨m, hof⟩
  · have Hof := Lib.hid hof
    clear hof
    go_enter Try.func3, Try.ntmps3
    go_wp2_with fail
    refine (shown_any w).mono ?_
    rintro e w1 ⟨rfl, hb1⟩
    have Hb1 := Lib.hid hb1
    clear hb1
    have ho1 := own0 w1 3 1
    have hbA : Below w1.heap.size w1 (w1.alloc (.cells #[] 3)) := (Below.refl _ _).alloc (Nat.le_refl _) _
    go_wp2_with (first | (at_builtin; refine hold ?_) | (at_make; refine hold ?_))
    (with_reducible refine unhold ?_)
    refine wpList_apd rfl _ _ _ rfl Eint' w1.heap.size _ 0 _ [] rfl ho1 _ F _ (icl P) rfl (by rw [icl_len, HF.out]; omega) ((HR.out.below Hb1.out).below hbA) (icl_one P) F (Nat.zero_add _) (icl P) rfl (by omega) (by omega) hbA.size ?_
    intro A2 c2 w2 ho2 hg2 _
    have hb2 := hbA.grown hg2 hbA.size ho1.row_ge
    have Hb2 := Lib.hid (Hb1.out.trans (hb2.mono Hb1.out.size))
    have Hr2 := Lib.hid ho2.rd
    clear ho1 hbA ho2 hg2 hb2
    go_wp2_with fail
    refine (sof_any P F c A w2 HF.out (HR.out.below Hb2.out) (by omega)).mono ?_
    intro e w3 h3
    obtain ⟨rfl, hb3⟩ := h3.none Hof.out
    have Hb3 := Lib.hid (Hb2.out.trans (hb3.mono Hb2.out.size))
    have Hb23 := Lib.hid hb3
    clear h3 hb3
    go_wp2_with fail
    refine (rof_any P F c A w3 HF.out (HR.out.below Hb3.out) (by omega)).mono ?_
    intro e w4 h4
    obtain ⟨rfl, hb4⟩ := h4.none Hof.out
    have Hb4 := Lib.hid (Hb3.out.trans (hb4.mono Hb3.out.size))
    have Hb24 := Lib.hid (Hb23.out.trans (hb4.mono Hb23.out.size))
    clear h4 hb4
    go_wp2_with fail
    refine (same_yes [] 0 0 0 none none w4 rfl (Rd.nil _ _) (Rd.nil _ _) (by omega)).mono ?_
    rintro e w5 ⟨rfl, hb5⟩
    have Hb5 := Lib.hid (Hb4.out.trans (hb5.mono Hb4.out.size))
    have Hb25 := Lib.hid (Hb24.out.trans (hb5.mono Hb24.out.size))
    clear hb5
    go_wp2_with fail
    refine (ints_same P F A A2 c c2 w5 HF.out (HR.out.below Hb5.out) (Hr2.out.below Hb25.out) (by omega)).mono ?_
    rintro e w6 ⟨rfl, hb6⟩
    have Hb6 := Lib.hid (Hb5.out.trans (hb6.mono Hb5.out.size))
    clear hb6
    go_wp2_with fail
    go_ret
    exact ⟨rfl, Hb6.out⟩
  · have Hof := Lib.hid hof
    obtain ⟨M, hM⟩ : ∃ M, m.length = M := ⟨_, rfl⟩
    have hM2 : M ≤ 1000000 := by
      rw [← hM]
      unfold ofS at hof
      split at hof
      · cases hof
        exact Nat.le_trans (spansF_len _ 4096) (by omega)
      · cases hof
    have HM := Lib.hid hM
    clear hof hM
    go_enter Try.func3, Try.ntmps3
    go_wp2_with fail
    refine (shown_any w).mono ?_
    rintro e w1 ⟨rfl, hb1⟩
    have Hb1 := Lib.hid hb1
    clear hb1
    have ho1 := own0 w1 3 1
    have hbA : Below w1.heap.size w1 (w1.alloc (.cells #[] 3)) := (Below.refl _ _).alloc (Nat.le_refl _) _
    go_wp2_with (first | (at_builtin; refine hold ?_) | (at_make; refine hold ?_))
    (with_reducible refine unhold ?_)
    refine wpList_apd rfl _ _ _ rfl Eint' w1.heap.size _ 0 _ [] rfl ho1 _ F _ (icl P) rfl (by rw [icl_len, HF.out]; omega) ((HR.out.below Hb1.out).below hbA) (icl_one P) F (Nat.zero_add _) (icl P) rfl (by omega) (by omega) hbA.size ?_
    intro A2 c2 w2 ho2 hg2 _
    have hb2 := hbA.grown hg2 hbA.size ho1.row_ge
    have Hb2 := Lib.hid (Hb1.out.trans (hb2.mono Hb1.out.size))
    have Hr2 := Lib.hid ho2.rd
    clear ho1 hbA ho2 hg2 hb2
    go_wp2_with fail
    refine (sof_any P F c A w2 HF.out (HR.out.below Hb2.out) (by omega)).mono ?_
    intro e w3 h3
    obtain ⟨⟨A3, c3, rfl, ho3⟩, hb3⟩ := h3.some Hof.out
    rw [HM.out]
    have Hb3 := Lib.hid (Hb2.out.trans (hb3.mono Hb2.out.size))
    have Hb23 := Lib.hid hb3
    have Hr3 := Lib.hid ho3.rd
    clear h3 hb3 ho3
    go_wp2_with fail
    refine (rof_any P F c A w3 HF.out (HR.out.below Hb3.out) (by omega)).mono ?_
    intro e w4 h4
    obtain ⟨⟨A4, c4, rfl, ho4⟩, hb4⟩ := h4.some Hof.out
    rw [HM.out]
    have Hb4 := Lib.hid (Hb3.out.trans (hb4.mono Hb3.out.size))
    have Hb24 := Lib.hid (Hb23.out.trans (hb4.mono Hb23.out.size))
    have Hr3' := Lib.hid (Hr3.out.below hb4)
    have Hr4 := Lib.hid ho4.rd
    clear h4 hb4 ho4
    go_wp2_with fail
    refine (same_yes m M c3 c4 A3 A4 w4 HM.out Hr3'.out Hr4.out (by omega)).mono ?_
    rintro e w5 ⟨rfl, hb5⟩
    have Hb5 := Lib.hid (Hb4.out.trans (hb5.mono Hb4.out.size))
    have Hb25 := Lib.hid (Hb24.out.trans (hb5.mono Hb24.out.size))
    clear hb5
    go_wp2_with fail
    refine (ints_same P F A A2 c c2 w5 HF.out (HR.out.below Hb5.out) (Hr2.out.below Hb25.out) (by omega)).mono ?_
    rintro e w6 ⟨rfl, hb6⟩
    have Hb6 := Lib.hid (Hb5.out.trans (hb6.mono Hb5.out.size))
    clear hb6
    go_wp2_with fail
    go_ret
    exact ⟨rfl, Hb6.out⟩

/-- The places that List tells. -/
def lsM (l : List SpanM) : List Int := if rightS l = true then listS l else []
theorem lsM_le (l : List SpanM) : (lsM l).length ≤ 4096 := by
  unfold lsM
  split
  · rename_i h
    rw [listS_on h, List.length_map]
    exact Nat.le_trans (List.length_filter_le _ _) (by rw [List.length_range]; exact Nat.le_refl _)
  · simp
theorem lsM_count (l : List SpanM) : (if rightS l = true then countS l else 0) = ((lsM l).length : Int) := by
  unfold lsM
  split
  · rename_i h
    exact countS_len ((rightS_spec l).1 h).1
  · rfl
theorem lsM_has (l : List SpanM) (k : Int) : (rightS l && hasS l k) = (lsM l).any (fun x => x == k) := by
  unfold lsM
  cases h : rightS l
  · rfl
  · rw [Bool.true_and, if_pos rfl]
    apply Bool.eq_iff_iff.2
    rw [hasS_iff, List.any_eq_true, ← listS_mem]
    constructor
    · intro h
      exact ⟨k, h, by simp⟩
    · rintro ⟨x, hx, he⟩
      have : x = k := by simpa using he
      rw [← this]
      exact hx

set_option maxHeartbeats 8000000 in
set_option maxRecDepth 100000 in
theorem spanstell_walk (l : List SpanM) (k : Int) (n c : Nat) (A : Option Addr) (w : World) (hl : l.length = n) (hr : Rd w A (spc l)) (hnc : n ≤ c) (hc : c ≤ 9223372036854775807) :
    Calls Try.prog 4 #[.slice A n c, .int .i64 k] w fun e w' => e = .returned (.bool true) ∧ Below w.heap.size w w' := by
  have hfw := Lib.hid (few_any l n c A w hl hnc hc)
  have hR := few_rd hr
  have hle : (fewP l).length ≤ 200 := by unfold fewP; rw [List.length_take]; omega
  generalize fewP l = L at *
  obtain ⟨F, hF⟩ : ∃ F, L.length = F := ⟨_, rfl⟩
  rw [hF] at hfw hle
  have HF := Lib.hid hF
  have h1 := Lib.hid (right_any L F c A w hF hR (by omega))
  have h2 := Lib.hid (fun w' (hb : Below w.heap.size w w') => rlist_any L F c A w' hF (hR.below hb) (by omega))
  have h3 := Lib.hid (fun w' (hb : Below w.heap.size w w') => sright_any L F c A w' hF (hR.below hb) (by omega))
  have h4 := Lib.hid (fun w' (hb : Below w.heap.size w w') => slist_any L F c A w' hF (hR.below hb) (by omega))
  have h5 := Lib.hid (fun w' (hb : Below w.heap.size w w') => scount_any L F c A w' hF (hR.below hb) (by omega))
  have h6 := Lib.hid (fun w' (hb : Below w.heap.size w w') => shas_any k L A F c w' hF (hR.below hb) (by omega))
  rw [lsM_count, lsM_has] at *
  change Hid (∀ w', _ → Calls _ _ _ _ (fun e w'' => (∃ A' c', e = .returned (.slice A' (lsM L).length c') ∧ Rd w'' A' (icl (lsM L))) ∧ _)) at h2
  change Hid (∀ w', _ → Calls _ _ _ _ (fun e w'' => (∃ A' c', e = .returned (.slice A' (lsM L).length c') ∧ Rd w'' A' (icl (lsM L))) ∧ _)) at h4
  have hq := lsM_le L
  generalize lsM L = Q at *
  generalize rightS L = X at *
  obtain ⟨m, hm⟩ : ∃ m, Q.length = m := ⟨_, rfl⟩
  rw [hm] at h2 h4 h5 hq
  have HM := Lib.hid hm
  have g1 : (X == X) = true := by simp
  have g2 : ((m : Int) == (m : Int)) = true := by simp
  clear hl hr hF hR hnc hc hm
  go_enter Try.func4, Try.ntmps4
  go_wp2_with fail
  refine hfw.out.mono ?_
  rintro e w0 ⟨rfl, rfl⟩
  go_wp2_with fail
  refine h1.out.mono ?_
  rintro e w1 ⟨rfl, hb1⟩
  have Hb1 := Lib.hid hb1
  clear hb1
  go_wp2_with fail
  refine (h2.out w1 Hb1.out).mono ?_
  rintro e w2 ⟨⟨A2, c2, rfl, hr2⟩, hb2⟩
  have Hb2 := Lib.hid (Hb1.out.trans (hb2.mono Hb1.out.size))
  have Hr2 := Lib.hid hr2
  clear hb2 hr2
  go_wp2_with fail
  go_loop [8, 19] (fun vb vi => ∃ j : Nat, vb = .bool ((Q.take j).any (fun x => x == k)) ∧ vi = .int .i64 j ∧ j ≤ m) (fun _ vi => m - (intOf vi).toNat)
  case atStart => exact ⟨0, rfl, rfl, by omega⟩
  case round =>
    obtain ⟨j, rfl, rfl, hj⟩ := hrel
    by_cases hjm : j < m
    · have hjl : j < Q.length := by rw [HM.out]; exact hjm
      have hjI : (j : Int) < (m : Int) := by omega
      have hj0 : (0 : Int) ≤ (j : Int) := by omega
      obtain ⟨b, o, rfl, c0⟩ := icl_at Hr2.out hjl
      rw [List.getElem?_eq_getElem hjl, Option.getD_some] at c0
      have Htk : Hid ((Q.take (j + 1)).any (fun x => x == k) = ((Q.take j).any (fun x => x == k) || (Q[j] == k))) := by
        show _ = _
        rw [List.take_succ_eq_append_getElem hjl, List.any_append]
        simp
      generalize Q[j] = x at *
      generalize (Q.take j).any (fun x => x == k) = B at *
      have HM' := Lib.hid HM.out
      cases B
      · go_wp2_with fail
        go_round
        case rel => exact ⟨j + 1, by rw [Htk.out, Bool.false_or], by go_num, by omega⟩
        case measure => simp [intOf]; omega
      · go_wp2_with fail
        go_round
        case rel => exact ⟨j + 1, by rw [Htk.out, Bool.true_or], by go_num, by omega⟩
        case measure => simp [intOf]; omega
    · obtain rfl : j = m := by omega
      have e1 : Q.take j = Q := List.take_of_length_le (by rw [HM.out]; exact Nat.le_refl _)
      rw [e1]
      clear e1
      generalize Q.any (fun x => x == k) = H at *
      have g3 : (H == H) = true := by simp
      go_wp2_with fail
      refine (shown_any w2).mono ?_
      rintro e w3 ⟨rfl, hb3⟩
      have Hb3 := Lib.hid (Hb2.out.trans (hb3.mono Hb2.out.size))
      have Hb23 := Lib.hid hb3
      clear hb3
      go_wp2_with fail
      refine (h3.out w3 Hb3.out).mono ?_
      rintro e w4 ⟨rfl, hb4⟩
      have Hb4 := Lib.hid (Hb3.out.trans (hb4.mono Hb3.out.size))
      have Hb24 := Lib.hid (Hb23.out.trans (hb4.mono Hb23.out.size))
      clear hb4
      go_wp2_with fail
      refine (h4.out w4 Hb4.out).mono ?_
      rintro e w5 ⟨⟨A5, c5, rfl, hr5⟩, hb5⟩
      have Hb5 := Lib.hid (Hb4.out.trans (hb5.mono Hb4.out.size))
      have Hb25 := Lib.hid (Hb24.out.trans (hb5.mono Hb24.out.size))
      have Hr5 := Lib.hid hr5
      clear hb5 hr5
      go_wp2_with fail
      refine (ints_same Q j A5 A2 c5 c2 w5 HM.out Hr5.out (Hr2.out.below Hb25.out) (by omega)).mono ?_
      rintro e w6 ⟨rfl, hb6⟩
      have Hb6 := Lib.hid (Hb5.out.trans (hb6.mono Hb5.out.size))
      clear hb6
      go_wp2_with fail
      refine (h5.out w6 Hb6.out).mono ?_
      rintro e w7 ⟨rfl, hb7⟩
      have Hb7 := Lib.hid (Hb6.out.trans (hb7.mono Hb6.out.size))
      clear hb7
      go_wp2_with fail
      refine (h6.out w7 Hb7.out).mono ?_
      rintro e w8 ⟨rfl, hb8⟩
      have Hb8 := Lib.hid (Hb7.out.trans (hb8.mono Hb7.out.size))
      clear hb8
      go_wp2_with fail
      go_ret
      exact ⟨rfl, Hb8.out⟩
end Go.Proofs.Ytjfpflnijkokaaa
