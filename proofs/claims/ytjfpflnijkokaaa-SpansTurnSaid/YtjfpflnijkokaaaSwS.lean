/- The walk of SpansBack. -/
import Derived.Test.YtjfpflnijkokaaaSwR
namespace Go.Proofs.Ytjfpflnijkokaaa
open Go.RowKit

attribute [local go_sem ↓] Go.wp_at_zero Go.wp_at_succ

theorem of_list {l : List SpanM} (h : rightS l = true) : ofS (listS l) = some l := by
  unfold ofS
  rw [if_pos ((all_in _).2 fun k hk => right_in h ((listS_mem l k).1 hk))]
  refine congrArg some (Eq.trans (spansF_congr fun j hj => ?_) (right_self h).symm)
  apply Bool.eq_iff_iff.2
  rw [decide_eq_true_eq, listS_mem, on_iff]
theorem of_some {p : List Int} {m : List SpanM} (h : ofS p = some m) : rightS m = true ∧ (∀ k, k ∈ p ↔ inS m k) := by
  unfold ofS at h
  split at h
  · rename_i hp
    cases h
    refine ⟨right_spansF _, fun k => ?_⟩
    have hin := (all_in p).1 hp
    constructor
    · intro hk
      have h0 := hin k hk
      have e : ((k.toNat : Nat) : Int) = k := by omega
      have := on_spansF (fun k => decide ((k : Int) ∈ p)) (j := k.toNat) (by omega)
      rw [← e]
      refine on_iff.1 ?_
      rw [this, decide_eq_true_eq, e]
      exact hk
    · intro hk
      have h0 := right_in (right_spansF _) hk
      have e : ((k.toNat : Nat) : Int) = k := by omega
      have := on_spansF (fun k => decide ((k : Int) ∈ p)) (j := k.toNat) (by omega)
      rw [← e] at hk ⊢
      rw [on_iff.2 hk] at this
      exact of_decide_eq_true this.symm
  · cases h

set_option maxHeartbeats 16000000 in
set_option maxRecDepth 100000 in
theorem spansback_walk (l : List SpanM) (n c : Nat) (A : Option Addr) (p : List Int) (np cp : Nat) (B : Option Addr) (w : World) (hl : l.length = n) (hr : Rd w A (spc l)) (hnc : n ≤ c) (hc : c ≤ 9223372036854775807) (hlp : p.length = np) (hrp : Rd w B (icl p)) (hnp : np ≤ cp) (hcp : cp ≤ 9223372036854775807) :
    Calls Try.prog 5 #[.slice A n c, .slice B np cp] w fun e w' => e = .returned (.bool true) ∧ Below w.heap.size w w' := by
  have hfw := Lib.hid (fun w' => few_any l n c A w' hl hnc hc)
  have hR := few_rd hr
  have hle : (fewP l).length ≤ 200 := by unfold fewP; rw [List.length_take]; omega
  generalize fewP l = L at *
  obtain ⟨F, hF⟩ : ∃ F, L.length = F := ⟨_, rfl⟩
  rw [hF] at hfw hle
  have HF := Lib.hid hF
  have HRL := Lib.hid hR
  have hRp := icl_left 1000 hrp
  obtain ⟨G, hG⟩ : ∃ G, (p.take 1000).length = G := ⟨_, rfl⟩
  have hG2 : min np 1000 = G := by rw [← hG, List.length_take, hlp, Nat.min_comm]
  have hm : min (np : Int) 1000 = (G : Int) := by omega
  have hGc : G ≤ cp := by omega
  have hG3 : G ≤ 1000 := by omega
  generalize p.take 1000 = P at *
  have HG := Lib.hid hG
  have HRP := Lib.hid hRp
  have h3 := Lib.hid (fun w' (hb : Below w.heap.size w w') => sright_any L F c A w' hF (hR.below hb) (by omega))
  have h4 := Lib.hid (fun w' (hb : Below w.heap.size w w') => slist_any L F c A w' hF (hR.below hb) (by omega))
  change Hid (∀ w', _ → Calls _ _ _ _ (fun e w'' => (∃ A' c', e = .returned (.slice A' (lsM L).length c') ∧ Rd w'' A' (icl (lsM L))) ∧ _)) at h4
  clear hl hr hF hR hnc hc hlp hrp hnp hcp hG hG2 hRp
  have hq := lsM_le L
  cases hX : rightS L
  · rw [hX] at h3
    clear hX h4 hq
    go_enter Try.func5, Try.ntmps5
    go_wp2_with fail
    refine (shown_any w).mono ?_
    rintro e w0 ⟨rfl, hb0⟩
    have Hb0 := Lib.hid hb0
    clear hb0
    go_wp2_with fail
    refine (hfw.out w0).mono ?_
    rintro e w0 ⟨rfl, rfl⟩
    go_wp2_with fail
    refine (h3.out _ Hb0.out).mono ?_
    rintro e w1 ⟨rfl, hb1⟩
    have Hb1 := Lib.hid (Hb0.out.trans (hb1.mono Hb0.out.size))
    clear hb1 Hb0
    go_wp2_with fail
    refine (sof_any P G cp B w1 HG.out (HRP.out.below Hb1.out) (by omega)).mono ?_
    intro e w4 h5
    cases hofP : ofS P with
    | none =>
      obtain ⟨rfl, hb4⟩ := h5.none hofP
      have Hb4 := Lib.hid (Hb1.out.trans (hb4.mono Hb1.out.size))
      clear h5 hb4 hofP
      go_wp2_with fail
      go_ret
      exact ⟨rfl, Hb4.out⟩
    | some m =>
      obtain ⟨⟨A4, c4, rfl, ho4⟩, hb4⟩ := h5.some hofP
      have Hb4 := Lib.hid (Hb1.out.trans (hb4.mono Hb1.out.size))
      have Hr4 := Lib.hid ho4.rd
      obtain ⟨hmr, hmin⟩ := of_some hofP
      obtain ⟨M, hM⟩ : ∃ M, m.length = M := ⟨_, rfl⟩
      have hM2 : M ≤ 4096 := by
        rw [← hM]
        unfold ofS at hofP
        split at hofP
        · cases hofP
          exact spansF_len _ 4096
        · cases hofP
      have HM := Lib.hid hM
      have hgood := ((rightS_spec m).1 hmr).1
      have hrise := listS_rise hgood
      have hlen := list_le (listS m) P hrise (fun x hx => (hmin x).2 ((listS_mem m x).1 hx))
      have Hhas : Hid (∀ k ∈ P, (rightS m && hasS m k) = true) := fun k hk => by
        rw [hmr, Bool.true_and, hasS_iff]
        exact (hmin k).1 hk
      have hlst := slist_any m M c4 A4 w4 hM ho4.rd (by omega)
      have hcnt := Lib.hid (fun w' (hb : Below w4.heap.size w4 w') => scount_any m M c4 A4 w' hM (Hr4.out.below hb) (by omega))
      have hrgt := Lib.hid (fun w' (hb : Below w4.heap.size w4 w') => sright_any m M c4 A4 w' hM (Hr4.out.below hb) (by omega))
      have hhas := Lib.hid (fun k w' (hb : Below w4.heap.size w4 w') => shas_any k m A4 M c4 w' hM (Hr4.out.below hb) (by omega))
      rw [lsM_count] at hcnt
      rw [hmr] at hrgt
      change Calls _ _ _ _ (fun e w'' => (∃ A' c', e = .returned (.slice A' (lsM m).length c') ∧ Rd w'' A' (icl (lsM m))) ∧ _) at hlst
      have hls : lsM m = listS m := by unfold lsM; rw [if_pos hmr]
      rw [hls] at hlst hcnt
      rw [hM]
      generalize listS m = S at *
      obtain ⟨T, hT⟩ : ∃ T, S.length = T := ⟨_, rfl⟩
      rw [hT] at hlst hcnt hlen
      rw [HG.out] at hlen
      have HT := Lib.hid hT
      have Hrise := Lib.hid hrise
      have Hlst := Lib.hid hlst
      have gT : ((T : Int) == (T : Int)) = true := by simp
      have gTG : (T : Int) ≤ (G : Int) := by omega
      clear h5 hb4 ho4 hmr hmin hM hgood hrise hls hT hlst hofP
      go_wp2_with fail
      refine Hlst.out.mono ?_
      rintro e w5 ⟨⟨A5, c5, rfl, hr5⟩, hb5⟩
      have Hb5 := Lib.hid hb5
      have Hr5 := Lib.hid hr5
      clear hb5 hr5 Hlst
      go_wp2_with fail
      go_loopw [57] (fun vi wr => ∃ j : Nat, vi = .int .i64 (j : Int) ∧ j ≤ T ∧ Hid (Below w5.heap.size w5 wr)) (fun vi _ => T - (intOf vi).toNat)
      case atStart => exact ⟨0, rfl, by omega, Below.refl _ _⟩
      case round =>
        obtain ⟨j, rfl, hj, Hb⟩ := hrel
        by_cases hjn : j < T
        · have hjl : j < S.length := by rw [HT.out]; exact hjn
          have hjI : (j : Int) < (T : Int) := by omega
          have hj0 : (0 : Int) ≤ (j : Int) := by omega
          obtain ⟨b5, o5, e5, d0⟩ := icl_at (Hr5.out.below Hb.out) hjl
          rw [List.getElem?_eq_getElem hjl, Option.getD_some] at d0
          by_cases hz : 0 < j
          · have gz : decide (0 < j) = true := decide_eq_true hz
            obtain ⟨t, ht⟩ : ∃ t, j = t + 1 := ⟨j - 1, by omega⟩
            have htl : t < S.length := by omega
            obtain ⟨b6, o6, e6, d1⟩ := icl_at (Hr5.out.below Hb.out) htl
            rw [List.getElem?_eq_getElem htl, Option.getD_some] at d1
            rw [e5] at e6
            cases e6
            subst e5
            have htI : (j : Int) - 1 = (t : Int) := by omega
            have ht0 : (0 : Int) ≤ (t : Int) := by omega
            have htT : t < T := by omega
            have htTI : (t : Int) < (T : Int) := by omega
            have hlt : S[t] < S[j] := List.pairwise_iff_getElem.1 Hrise.out t j htl hjl (by omega)
            generalize S[t] = x at *
            generalize S[j] = y at *
            have gxy : decide (y ≤ x) = false := decide_eq_false (by omega)
            clear hlt ht hz htl hjl
            go_wp2_with fail
            go_quiet (fail)
            go_wp2_with fail
            go_roundw
            case rel => exact ⟨j + 1, by go_num, by omega, below_drewN' Hb.out _⟩
            case measure => simp only [intOf, Int.toNat_natCast]; omega
          · have gz : decide (0 < j) = false := decide_eq_false hz
            clear hz hjl d0 e5
            go_wp2_with fail
            go_quiet (fail)
            go_wp2_with fail
            go_roundw
            case rel => exact ⟨j + 1, by go_num, by omega, below_drewN' Hb.out _⟩
            case measure => simp only [intOf, Int.toNat_natCast]; omega
        · obtain rfl : j = T := by omega
          have Hb7 := Lib.hid (Hb5.out.trans (Hb.out.mono Hb5.out.size))
          clear Hb
          generalize wr = wo at *
          go_wp2_with fail
          go_loopw [77] (fun vi wr => ∃ i : Nat, vi = .int .i64 (i : Int) ∧ i ≤ G ∧ Hid (Below w4.heap.size w4 wr)) (fun vi _ => G - (intOf vi).toNat)
          case atStart => exact ⟨0, rfl, by omega, Hb7.out⟩
          case round =>
            obtain ⟨i, rfl, hi, Hb⟩ := hrel
            by_cases hin : i < G
            · have hil : i < P.length := by rw [HG.out]; exact hin
              have hiI : (i : Int) < (G : Int) := by omega
              have hi0 : (0 : Int) ≤ (i : Int) := by omega
              obtain ⟨b6, o6, rfl, d1⟩ := icl_at (HRP.out.below (Hb4.out.trans (Hb.out.mono Hb4.out.size))) hil
              rw [List.getElem?_eq_getElem hil, Option.getD_some] at d1
              have hk := hhas.out P[i] wr Hb.out
              rw [Hhas.out _ (List.getElem_mem hil)] at hk
              generalize P[i] = k at *
              have Hk := Lib.hid hk
              clear hk hil
              go_wp2_with fail
              refine Hk.out.mono ?_
              rintro e w8 ⟨rfl, hb8⟩
              have Hb8 := Lib.hid (Hb.out.trans (hb8.mono Hb.out.size))
              clear hb8
              go_wp2_with fail
              go_roundw
              case rel => exact ⟨i + 1, by go_num, by omega, Hb8.out⟩
              case measure => simp only [intOf, Int.toNat_natCast]; omega
            · obtain rfl : i = G := by omega
              go_wp2_with fail
              refine (hrgt.out wr Hb.out).mono ?_
              rintro e w8 ⟨rfl, hb8⟩
              have Hb8 := Lib.hid (Hb.out.trans (hb8.mono Hb.out.size))
              clear hb8
              go_wp2_with fail
              refine (hcnt.out w8 Hb8.out).mono ?_
              rintro e w9 ⟨rfl, hb9⟩
              have Hb9 := Lib.hid (Hb4.out.trans ((Hb8.out.trans (hb9.mono Hb8.out.size)).mono Hb4.out.size))
              clear hb9
              go_wp2_with fail
              go_ret
              exact ⟨rfl, Hb9.out⟩
  · have Hof := Lib.hid (of_list hX)
    have hls : lsM L = listS L := by unfold lsM; rw [if_pos hX]
    rw [hls] at h4 hq
    rw [hX] at h3
    clear hX hls
    generalize listS L = Q at *
    obtain ⟨m, hm⟩ : ∃ m, Q.length = m := ⟨_, rfl⟩
    rw [hm] at h4 hq
    have HM := Lib.hid hm
    clear hm
    go_enter Try.func5, Try.ntmps5
    go_wp2_with fail
    refine (shown_any w).mono ?_
    rintro e w0 ⟨rfl, hb0⟩
    have Hb0 := Lib.hid hb0
    clear hb0
    go_wp2_with fail
    refine (hfw.out w0).mono ?_
    rintro e w0 ⟨rfl, rfl⟩
    go_wp2_with fail
    refine (h3.out _ Hb0.out).mono ?_
    rintro e w1 ⟨rfl, hb1⟩
    have Hb1 := Lib.hid (Hb0.out.trans (hb1.mono Hb0.out.size))
    clear hb1 Hb0
    go_wp2_with fail
    refine (h4.out _ Hb1.out).mono ?_
    rintro e w2 ⟨⟨A2, c2, rfl, hr2⟩, hb2⟩
    have Hb2 := Lib.hid (Hb1.out.trans (hb2.mono Hb1.out.size))
    have Hr2 := Lib.hid hr2
    clear hb2 Hb1 hr2
    go_wp2_with fail
    refine (sof_any Q m c2 A2 w2 HM.out Hr2.out (by omega)).mono ?_
    intro e w3 h5
    obtain ⟨⟨A3, c3, rfl, ho3⟩, hb3⟩ := h5.some Hof.out
    rw [HF.out]
    have Hb3 := Lib.hid (Hb2.out.trans (hb3.mono Hb2.out.size))
    have Hr3 := Lib.hid ho3.rd
    clear h5 hb3 ho3 Hb2
    go_wp2_with fail
    refine (same_yes L F c3 c A3 A w3 HF.out Hr3.out (HRL.out.below Hb3.out) (by omega)).mono ?_
    rintro e w1 ⟨rfl, hb1⟩
    have Hb1 := Lib.hid (Hb3.out.trans (hb1.mono Hb3.out.size))
    clear hb1 Hb3 Hr3 Hr2 Hof HM h4 hq
    go_wp2_with fail
    refine (sof_any P G cp B w1 HG.out (HRP.out.below Hb1.out) (by omega)).mono ?_
    intro e w4 h5
    cases hofP : ofS P with
    | none =>
      obtain ⟨rfl, hb4⟩ := h5.none hofP
      have Hb4 := Lib.hid (Hb1.out.trans (hb4.mono Hb1.out.size))
      clear h5 hb4 hofP
      go_wp2_with fail
      go_ret
      exact ⟨rfl, Hb4.out⟩
    | some m =>
      obtain ⟨⟨A4, c4, rfl, ho4⟩, hb4⟩ := h5.some hofP
      have Hb4 := Lib.hid (Hb1.out.trans (hb4.mono Hb1.out.size))
      have Hr4 := Lib.hid ho4.rd
      obtain ⟨hmr, hmin⟩ := of_some hofP
      obtain ⟨M, hM⟩ : ∃ M, m.length = M := ⟨_, rfl⟩
      have hM2 : M ≤ 4096 := by
        rw [← hM]
        unfold ofS at hofP
        split at hofP
        · cases hofP
          exact spansF_len _ 4096
        · cases hofP
      have HM := Lib.hid hM
      have hgood := ((rightS_spec m).1 hmr).1
      have hrise := listS_rise hgood
      have hlen := list_le (listS m) P hrise (fun x hx => (hmin x).2 ((listS_mem m x).1 hx))
      have Hhas : Hid (∀ k ∈ P, (rightS m && hasS m k) = true) := fun k hk => by
        rw [hmr, Bool.true_and, hasS_iff]
        exact (hmin k).1 hk
      have hlst := slist_any m M c4 A4 w4 hM ho4.rd (by omega)
      have hcnt := Lib.hid (fun w' (hb : Below w4.heap.size w4 w') => scount_any m M c4 A4 w' hM (Hr4.out.below hb) (by omega))
      have hrgt := Lib.hid (fun w' (hb : Below w4.heap.size w4 w') => sright_any m M c4 A4 w' hM (Hr4.out.below hb) (by omega))
      have hhas := Lib.hid (fun k w' (hb : Below w4.heap.size w4 w') => shas_any k m A4 M c4 w' hM (Hr4.out.below hb) (by omega))
      rw [lsM_count] at hcnt
      rw [hmr] at hrgt
      change Calls _ _ _ _ (fun e w'' => (∃ A' c', e = .returned (.slice A' (lsM m).length c') ∧ Rd w'' A' (icl (lsM m))) ∧ _) at hlst
      have hls : lsM m = listS m := by unfold lsM; rw [if_pos hmr]
      rw [hls] at hlst hcnt
      rw [hM]
      generalize listS m = S at *
      obtain ⟨T, hT⟩ : ∃ T, S.length = T := ⟨_, rfl⟩
      rw [hT] at hlst hcnt hlen
      rw [HG.out] at hlen
      have HT := Lib.hid hT
      have Hrise := Lib.hid hrise
      have Hlst := Lib.hid hlst
      have gT : ((T : Int) == (T : Int)) = true := by simp
      have gTG : (T : Int) ≤ (G : Int) := by omega
      clear h5 hb4 ho4 hmr hmin hM hgood hrise hls hT hlst hofP
      go_wp2_with fail
      refine Hlst.out.mono ?_
      rintro e w5 ⟨⟨A5, c5, rfl, hr5⟩, hb5⟩
      have Hb5 := Lib.hid hb5
      have Hr5 := Lib.hid hr5
      clear hb5 hr5 Hlst
      go_wp2_with fail
      go_loopw [57] (fun vi wr => ∃ j : Nat, vi = .int .i64 (j : Int) ∧ j ≤ T ∧ Hid (Below w5.heap.size w5 wr)) (fun vi _ => T - (intOf vi).toNat)
      case atStart => exact ⟨0, rfl, by omega, Below.refl _ _⟩
      case round =>
        obtain ⟨j, rfl, hj, Hb⟩ := hrel
        by_cases hjn : j < T
        · have hjl : j < S.length := by rw [HT.out]; exact hjn
          have hjI : (j : Int) < (T : Int) := by omega
          have hj0 : (0 : Int) ≤ (j : Int) := by omega
          obtain ⟨b5, o5, e5, d0⟩ := icl_at (Hr5.out.below Hb.out) hjl
          rw [List.getElem?_eq_getElem hjl, Option.getD_some] at d0
          by_cases hz : 0 < j
          · have gz : decide (0 < j) = true := decide_eq_true hz
            obtain ⟨t, ht⟩ : ∃ t, j = t + 1 := ⟨j - 1, by omega⟩
            have htl : t < S.length := by omega
            obtain ⟨b6, o6, e6, d1⟩ := icl_at (Hr5.out.below Hb.out) htl
            rw [List.getElem?_eq_getElem htl, Option.getD_some] at d1
            rw [e5] at e6
            cases e6
            subst e5
            have htI : (j : Int) - 1 = (t : Int) := by omega
            have ht0 : (0 : Int) ≤ (t : Int) := by omega
            have htT : t < T := by omega
            have htTI : (t : Int) < (T : Int) := by omega
            have hlt : S[t] < S[j] := List.pairwise_iff_getElem.1 Hrise.out t j htl hjl (by omega)
            generalize S[t] = x at *
            generalize S[j] = y at *
            have gxy : decide (y ≤ x) = false := decide_eq_false (by omega)
            clear hlt ht hz htl hjl
            go_wp2_with fail
            go_quiet (fail)
            go_wp2_with fail
            go_roundw
            case rel => exact ⟨j + 1, by go_num, by omega, below_drewN' Hb.out _⟩
            case measure => simp only [intOf, Int.toNat_natCast]; omega
          · have gz : decide (0 < j) = false := decide_eq_false hz
            clear hz hjl d0 e5
            go_wp2_with fail
            go_quiet (fail)
            go_wp2_with fail
            go_roundw
            case rel => exact ⟨j + 1, by go_num, by omega, below_drewN' Hb.out _⟩
            case measure => simp only [intOf, Int.toNat_natCast]; omega
        · obtain rfl : j = T := by omega
          have Hb7 := Lib.hid (Hb5.out.trans (Hb.out.mono Hb5.out.size))
          clear Hb
          generalize wr = wo at *
          go_wp2_with fail
          go_loopw [77] (fun vi wr => ∃ i : Nat, vi = .int .i64 (i : Int) ∧ i ≤ G ∧ Hid (Below w4.heap.size w4 wr)) (fun vi _ => G - (intOf vi).toNat)
          case atStart => exact ⟨0, rfl, by omega, Hb7.out⟩
          case round =>
            obtain ⟨i, rfl, hi, Hb⟩ := hrel
            by_cases hin : i < G
            · have hil : i < P.length := by rw [HG.out]; exact hin
              have hiI : (i : Int) < (G : Int) := by omega
              have hi0 : (0 : Int) ≤ (i : Int) := by omega
              obtain ⟨b6, o6, rfl, d1⟩ := icl_at (HRP.out.below (Hb4.out.trans (Hb.out.mono Hb4.out.size))) hil
              rw [List.getElem?_eq_getElem hil, Option.getD_some] at d1
              have hk := hhas.out P[i] wr Hb.out
              rw [Hhas.out _ (List.getElem_mem hil)] at hk
              generalize P[i] = k at *
              have Hk := Lib.hid hk
              clear hk hil
              go_wp2_with fail
              refine Hk.out.mono ?_
              rintro e w8 ⟨rfl, hb8⟩
              have Hb8 := Lib.hid (Hb.out.trans (hb8.mono Hb.out.size))
              clear hb8
              go_wp2_with fail
              go_roundw
              case rel => exact ⟨i + 1, by go_num, by omega, Hb8.out⟩
              case measure => simp only [intOf, Int.toNat_natCast]; omega
            · obtain rfl : i = G := by omega
              go_wp2_with fail
              refine (hrgt.out wr Hb.out).mono ?_
              rintro e w8 ⟨rfl, hb8⟩
              have Hb8 := Lib.hid (Hb.out.trans (hb8.mono Hb.out.size))
              clear hb8
              go_wp2_with fail
              refine (hcnt.out w8 Hb8.out).mono ?_
              rintro e w9 ⟨rfl, hb9⟩
              have Hb9 := Lib.hid (Hb4.out.trans ((Hb8.out.trans (hb9.mono Hb8.out.size)).mono Hb4.out.size))
              clear hb9
              go_wp2_with fail
              go_ret
              exact ⟨rfl, Hb9.out⟩
end Go.Proofs.Ytjfpflnijkokaaa
