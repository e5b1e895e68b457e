/- The walk of DictRound. -/
import Derived.Test.YtphoccjeakdkeaaDwK
import Derived.Test.YtphoccjeakdkeaaDwP
namespace Go.Proofs.Ytphoccjeakdkeaa
open Go.RowKit

attribute [local go_sem ↓] Go.wp_at_zero Go.wp_at_succ

theorem TakeOK.some {b : List UInt8} {W : List (List UInt8)} {r : List UInt8} {w w' : World} {e : Ending} (h : TakeOK b w e w') (hW : takeM b = some (W, r)) :
    (∃ A c A2 c2, e = .returned (.tuple #[.slice A W.length c, .slice A2 r.length c2, .int .i64 0]) ∧ Rd w' A (wcl W) ∧ Rd w' A2 (Bs r)) ∧ Below w.heap.size w w' := by
  obtain ⟨h1, hb⟩ := h
  refine ⟨?_, hb⟩
  rcases h1 with ⟨h1, _⟩ | ⟨W', r', A, c, A2, c2, h1, h2, h3, h4⟩
  · rw [hW] at h1; cases h1
  · rw [hW] at h1
    cases h1
    exact ⟨A, c, A2, c2, h2, h3, h4⟩
theorem TakeOK.none {b : List UInt8} {w w' : World} {e : Ending} (h : TakeOK b w e w') (hW : takeM b = none) :
    e = .returned (.tuple #[.slice none 0 0, .slice none 0 0, .int .i64 6]) ∧ Below w.heap.size w w' := by
  obtain ⟨h1, hb⟩ := h
  refine ⟨?_, hb⟩
  rcases h1 with ⟨_, h2⟩ | ⟨W', p', A, c, A2, c2, h1, h2, h3, h4⟩
  · exact h2
  · rw [hW] at h1; cases h1
theorem putM_some {l : List (List UInt8)} {b : List UInt8} (h : putM l = some b) : rightW l = true ∧ b = numB l.length ++ putF [] l := by
  unfold putM at h
  split at h
  · cases h
    exact ⟨by assumption, rfl⟩
  · cases h
theorem putM_none {l : List (List UInt8)} (h : putM l = none) : rightW l = false := by
  unfold putM at h
  split at h
  · cases h
  · cases hR : rightW l with
    | false => rfl
    | true => rename_i h2; exact absurd hR h2

set_option maxHeartbeats 16000000 in
set_option maxRecDepth 100000 in
theorem dictround_walk (l : List (List UInt8)) (b : List UInt8) (n c n2 c2 : Nat) (A A2 : Option Addr) (w : World)
    (hl : l.length = n) (hr : Rd w A (wcl l)) (hx : ∀ x ∈ l, x.length ≤ 9223372036854775807) (hnc : n ≤ c) (hc : c ≤ 9223372036854775807)
    (hb : b.length = n2) (hrb : Rd w A2 (Bs b)) (hnc2 : n2 ≤ c2) (hc2 : c2 ≤ 9223372036854775807) :
    Calls Try.prog 7 #[.slice A n c, .slice A2 n2 c2] w fun e w' => e = .returned (.bool true) ∧ Below w.heap.size w w' := by
  have hsh := Lib.hid (shown_any w)
  have hfw := Lib.hid (fun w' (hb : Below w.heap.size w w') => few_any l n c A w' hl (hr.below hb) hx hnc hc)
  have hR := Lib.hid (few_rd hr)
  have hle := (fewM_le l).1
  generalize fewM l = L at *
  obtain ⟨F, hF⟩ : ∃ F, L.length = F := ⟨_, rfl⟩
  rw [hF] at hfw hle
  have HF := Lib.hid hF
  obtain ⟨m, hm⟩ : ∃ m, min n2 3000 = m := ⟨_, rfl⟩
  have hmI : min (n2 : Int) 3000 = (m : Int) := by omega
  have hm3 : m ≤ 3000 := by omega
  have hmn : m ≤ n2 := by omega
  have hm0 : (0 : Int) ≤ (m : Int) := by omega
  have hmc : (m : Int) ≤ (c2 : Int) := by omega
  have hmcN : m ≤ c2 := by omega
  have HX := Lib.hid (rdTake8 hrb m)
  have Hxl : Hid ((b.take m).length = m) := by show _ = _; rw [List.length_take, hb]; omega
  generalize b.take m = X at *
  have hxx := St8_cmp X X
  rw [decide_eq_true rfl] at hxx
  clear hl hr hx hF hnc hc hb hrb hm
  go_enter Try.func7, Try.ntmps7
  go_wp2_with fail
  refine hsh.out.mono ?_
  rintro e v1 ⟨rfl, hb1⟩
  have Hb1 := Lib.hid hb1
  clear hb1 hsh
  go_wp2_with fail
  refine (hfw.out v1 Hb1.out).mono ?_
  rintro e u1 ⟨rfl, rfl⟩
  go_wp2_with fail
  refine (dput_any L F c A _ HF.out (hR.out.below Hb1.out) (by omega)).mono ?_
  intro e v2 h2
  cases hpl : putM L with
  | none =>
    obtain ⟨rfl, hb2⟩ := h2.none hpl
    have HrL : Hid (rightW L = false) := putM_none hpl
    have Hb2 := Lib.hid (Hb1.out.trans (hb2.mono Hb1.out.size))
    clear h2 hb2 hpl
    go_wp2_with fail
    refine (dtake_any X m c2 A2 _ Hxl.out (HX.out.below Hb2.out) (by omega) hmcN hc2).mono ?_
    intro e v5 h5
    cases htx : takeM X with
    | none =>
      obtain ⟨rfl, hb5⟩ := h5.none htx
      have Hb5 := Lib.hid (Hb2.out.trans (hb5.mono Hb2.out.size))
      have hpe : putM [] = some [0] := by decide +kernel
      clear h5 hb5 htx
      go_wp2_with fail
      refine (dput_any [] 0 0 none v5 rfl (Rd.nil _ _) (by omega)).mono ?_
      intro e v6 h6
      obtain ⟨⟨A6, c6, rfl, _⟩, hb6⟩ := h6.some hpe
      have Hb6 := Lib.hid (Hb5.out.trans (hb6.mono Hb5.out.size))
      clear h6 hb6
      go_wp2_with fail
      refine (hfw.out v6 Hb6.out).mono ?_
      rintro e u6 ⟨rfl, rfl⟩
      have hri := dright_any L F c A v6 HF.out (hR.out.below Hb6.out) (by omega)
      rw [HrL.out] at hri
      have Hri := Lib.hid hri
      clear hri
      go_wp2_with fail
      refine Hri.out.mono ?_
      rintro e v7 ⟨rfl, q7, rfl⟩
      go_wp2_with fail
      go_ret
      exact ⟨rfl, below_drewN' Hb6.out q7⟩
    | some Wr =>
      obtain ⟨W, r⟩ := Wr
      obtain ⟨⟨A5, c5, A5', c5', rfl, hW5, hr5⟩, hb5⟩ := h5.some htx
      have Hb5 := Lib.hid (Hb2.out.trans (hb5.mono Hb2.out.size))
      obtain ⟨hrW, hXe⟩ := takeM_put htx
      have hpw : putM W = some (numB W.length ++ putF [] W) := by unfold putM; rw [if_pos hrW]
      have hW2 := (rightW_le hrW).2
      have HW5 := Lib.hid hW5
      have Hr5 := Lib.hid hr5
      have HXe := Lib.hid hXe
      obtain ⟨K, hK⟩ : ∃ K, W.length = K := ⟨_, rfl⟩
      rw [hK]
      have HK := Lib.hid hK
      rw [hK] at hW2
      have hplen := putM_len hpw
      obtain ⟨Rn, hRn⟩ : ∃ Rn, r.length = Rn := ⟨_, rfl⟩
      have hrm : Rn ≤ 3000 := by
        rw [← hRn]
        have := congrArg List.length hXe
        rw [Hxl.out, List.length_append] at this
        omega
      rw [hRn]
      have HRn := Lib.hid hRn
      have Hpw := Lib.hid hpw
      clear h5 hb5 htx hrW hXe hpw hW5 hr5 hK hRn
      go_wp2_with fail
      refine (dput_any W K c5 A5 v5 HK.out HW5.out (by omega)).mono ?_
      intro e v6 h6
      obtain ⟨⟨A6, c6, rfl, hA6⟩, hb6⟩ := h6.some Hpw.out
      have Hb6 := Lib.hid (Hb5.out.trans (hb6.mono Hb5.out.size))
      have Hr6 := Lib.hid (Hr5.out.below hb6)
      have HA6 := Lib.hid hA6
      obtain ⟨PL, hPL⟩ : ∃ PL, (numB W.length ++ putF [] W).length = PL := ⟨_, rfl⟩
      rw [hPL]
      rw [hPL] at hplen
      have HPL := Lib.hid hPL
      clear h6 hb6 hA6 hPL
      go_wp2_with fail
      refine (hfw.out v6 Hb6.out).mono ?_
      rintro e u6 ⟨rfl, rfl⟩
      have hri := dright_any L F c A v6 HF.out (hR.out.below Hb6.out) (by omega)
      rw [HrL.out] at hri
      have Hri := Lib.hid hri
      clear hri
      go_wp2_with fail
      refine Hri.out.mono ?_
      rintro e v7 ⟨rfl, q7, hv7⟩
      have Hb7 : Hid (Below w.heap.size w v7) := by rw [hv7]; exact below_drewN' Hb6.out q7
      have hcv1 : (convert 40 9 (.slice A6 PL c6)).run Try.prog v7 = .ok (.string (St8 (numB W.length ++ putF [] W))) v7 := run_str v7 A6 _ PL c6 HPL.out (by rw [hv7]; exact HA6.out.drewN q7)
      have hcv2 : (convert 40 9 (.slice A5' Rn c5')).run Try.prog v7 = .ok (.string (St8 r)) v7 := run_str v7 A5' r Rn c5' HRn.out (by rw [hv7]; exact Hr6.out.drewN q7)
      have hcv3 : (convert 40 9 (.slice A2 m c2)).run Try.prog v7 = .ok (.string (St8 X)) v7 := run_str v7 A2 X m c2 Hxl.out (HX.out.below Hb7.out)
      have hadd := fun w' => run_string_add_sum (P := Try.prog) (w := w') (St8 (numB W.length ++ putF [] W)) (St8 r) (by rw [St8_size, St8_size, HPL.out, HRn.out]; omega)
      rw [St8_append, ← HXe.out] at hadd
      clear hv7
      generalize numB W.length ++ putF [] W = PB at *
      go_wp2_with fail
      go_ret
      exact ⟨rfl, Hb7.out⟩
  | some pa =>
    obtain ⟨⟨A3, c3, rfl, hA3⟩, hb2⟩ := h2.some hpl
    obtain ⟨hrL, hpa⟩ := putM_some hpl
    have HrL : Hid (rightW L = true) := hrL
    have Htk : Hid (takeM (pa ++ X) = some (L, X)) := by
      show _ = _
      rw [hpa]
      exact takeM_of hrL X
    have hpalen := putM_len hpl
    have Hb2 := Lib.hid (Hb1.out.trans (hb2.mono Hb1.out.size))
    have HA3 := Lib.hid hA3
    obtain ⟨PA, hPA⟩ : ∃ PA, pa.length = PA := ⟨_, rfl⟩
    rw [hPA]
    rw [hPA] at hpalen
    have HPA := Lib.hid hPA
    clear h2 hb2 hpl hA3 hrL hpa hPA
    have ho9 : Own (v2.alloc (.cells #[] 5)) v2.heap.size 5 1 (some ⟨v2.heap.size, 0, none⟩) 0 0 [] := World.ownsRow_made v2 #[] 0 (Nat.le_refl _) (by unfold maxLen; omega) rfl
    have hb9 : Below v2.heap.size v2 (v2.alloc (.cells #[] 5)) := (Below.refl _ _).alloc (Nat.le_refl _) _
    go_wp2_with (first | (at_builtin; refine hold ?_) | (at_make; refine hold ?_))
    (with_reducible refine unhold ?_)
    refine wpList_apd rfl _ _ _ rfl E8 v2.heap.size _ 0 _ [] rfl ho9 _ PA _ (Bs pa) rfl (by rw [List.length_map, HPA.out, Nat.mul_one]) (HA3.out.below hb9) (Bs_one pa) PA (Nat.zero_add _) (Bs pa) rfl (by omega) (by omega) hb9.size ?_
    intro B1 e1 z1 hz1 hg1 _
    have hbz1 : Below v2.heap.size v2 z1 := hb9.grown hg1 hb9.size ho9.row_ge
    clear ho9 hb9 hg1
    go_wp2_with (first | (at_builtin; refine hold ?_) | (at_make; refine hold ?_))
    (with_reducible refine unhold ?_)
    refine wpList_apd rfl _ _ _ rfl E8 v2.heap.size _ PA _ (Bs pa) rfl hz1 _ m _ (Bs X) rfl (by rw [List.length_map, Hxl.out, Nat.mul_one]) ((HX.out.below Hb2.out).below hbz1) (Bs_one X) (PA + m) rfl (Bs (pa ++ X)) (by show _ = List.map Ytphoccjeakdkeaa.B _; rw [List.map_append]) (by omega) (by omega) hbz1.size ?_
    intro B2 e2 z2 hz2 hg2 _
    have hbz2 : Below v2.heap.size v2 z2 := hbz1.grown hg2 hbz1.size hz1.row_ge
    have hcap2 := Own.cap hz2
    have Hz2 := Lib.hid hz2.rd
    have Hbz := Lib.hid (Hb2.out.trans (hbz2.mono Hb2.out.size))
    have he2 : e2 ≤ 9223372036854775807 := by have := hcap2.2; unfold maxLen at this; omega
    have he1 : PA + m ≤ e2 := hcap2.1
    have Hpx : Hid ((pa ++ X).length = PA + m) := by show _ = _; rw [List.length_append, HPA.out, Hxl.out]
    clear hz1 hg2 hbz1 hz2 hbz2 hcap2
    go_wp2_with fail
    refine (dtake_any (pa ++ X) (PA + m) e2 B2 z2 Hpx.out Hz2.out (by omega) he1 he2).mono ?_
    intro e v3 h3
    obtain ⟨⟨A4, c4, A4', c4', rfl, hW4, hr4⟩, hb3⟩ := h3.some Htk.out
    rw [HF.out, Hxl.out]
    have Hb3 := Lib.hid (Hbz.out.trans (hb3.mono Hbz.out.size))
    have HW4 := Lib.hid hW4
    have Hr4 := Lib.hid hr4
    clear h3 hb3 hW4 hr4 Htk Hpx Hz2 he1 he2 hpalen
    go_wp2_with fail
    refine (hfw.out v3 Hb3.out).mono ?_
    rintro e u3 ⟨rfl, rfl⟩
    go_wp2_with fail
    refine (same_eq L F A4 A c4 c v3 HF.out HW4.out (hR.out.below Hb3.out) (by omega)).mono ?_
    rintro e v4 ⟨rfl, hb4⟩
    have Hb4 := Lib.hid (Hb3.out.trans (hb4.mono Hb3.out.size))
    have hcv1 := run_str v4 A4' X m c4' Hxl.out (Hr4.out.below hb4)
    have hcv2 := run_str v4 A2 X m c2 Hxl.out (HX.out.below Hb4.out)
    clear hb4
    go_wp2_with fail
    clear hcv1 hcv2
    refine (dtake_any X m c2 A2 _ Hxl.out (HX.out.below Hb4.out) (by omega) hmcN hc2).mono ?_
    intro e v5 h5
    cases htx : takeM X with
    | none =>
      obtain ⟨rfl, hb5⟩ := h5.none htx
      have Hb5 := Lib.hid (Hb4.out.trans (hb5.mono Hb4.out.size))
      have hpe : putM [] = some [0] := by decide +kernel
      clear h5 hb5 htx
      go_wp2_with fail
      refine (dput_any [] 0 0 none v5 rfl (Rd.nil _ _) (by omega)).mono ?_
      intro e v6 h6
      obtain ⟨⟨A6, c6, rfl, _⟩, hb6⟩ := h6.some hpe
      have Hb6 := Lib.hid (Hb5.out.trans (hb6.mono Hb5.out.size))
      clear h6 hb6
      go_wp2_with fail
      refine (hfw.out v6 Hb6.out).mono ?_
      rintro e u6 ⟨rfl, rfl⟩
      have hri := dright_any L F c A v6 HF.out (hR.out.below Hb6.out) (by omega)
      rw [HrL.out] at hri
      have Hri := Lib.hid hri
      clear hri
      go_wp2_with fail
      refine Hri.out.mono ?_
      rintro e v7 ⟨rfl, q7, rfl⟩
      go_wp2_with fail
      go_ret
      exact ⟨rfl, below_drewN' Hb6.out q7⟩
    | some Wr =>
      obtain ⟨W, r⟩ := Wr
      obtain ⟨⟨A5, c5, A5', c5', rfl, hW5, hr5⟩, hb5⟩ := h5.some htx
      have Hb5 := Lib.hid (Hb4.out.trans (hb5.mono Hb4.out.size))
      obtain ⟨hrW, hXe⟩ := takeM_put htx
      have hpw : putM W = some (numB W.length ++ putF [] W) := by unfold putM; rw [if_pos hrW]
      have hW2 := (rightW_le hrW).2
      have HW5 := Lib.hid hW5
      have Hr5 := Lib.hid hr5
      have HXe := Lib.hid hXe
      obtain ⟨K, hK⟩ : ∃ K, W.length = K := ⟨_, rfl⟩
      rw [hK]
      have HK := Lib.hid hK
      rw [hK] at hW2
      have hplen := putM_len hpw
      obtain ⟨Rn, hRn⟩ : ∃ Rn, r.length = Rn := ⟨_, rfl⟩
      have hrm : Rn ≤ 3000 := by
        rw [← hRn]
        have := congrArg List.length hXe
        rw [Hxl.out, List.length_append] at this
        omega
      rw [hRn]
      have HRn := Lib.hid hRn
      have Hpw := Lib.hid hpw
      clear h5 hb5 htx hrW hXe hpw hW5 hr5 hK hRn
      go_wp2_with fail
      refine (dput_any W K c5 A5 v5 HK.out HW5.out (by omega)).mono ?_
      intro e v6 h6
      obtain ⟨⟨A6, c6, rfl, hA6⟩, hb6⟩ := h6.some Hpw.out
      have Hb6 := Lib.hid (Hb5.out.trans (hb6.mono Hb5.out.size))
      have Hr6 := Lib.hid (Hr5.out.below hb6)
      have HA6 := Lib.hid hA6
      obtain ⟨PL, hPL⟩ : ∃ PL, (numB W.length ++ putF [] W).length = PL := ⟨_, rfl⟩
      rw [hPL]
      rw [hPL] at hplen
      have HPL := Lib.hid hPL
      clear h6 hb6 hA6 hPL
      go_wp2_with fail
      refine (hfw.out v6 Hb6.out).mono ?_
      rintro e u6 ⟨rfl, rfl⟩
      have hri := dright_any L F c A v6 HF.out (hR.out.below Hb6.out) (by omega)
      rw [HrL.out] at hri
      have Hri := Lib.hid hri
      clear hri
      go_wp2_with fail
      refine Hri.out.mono ?_
      rintro e v7 ⟨rfl, q7, hv7⟩
      have Hb7 : Hid (Below w.heap.size w v7) := by rw [hv7]; exact below_drewN' Hb6.out q7
      have hcv1 : (convert 40 9 (.slice A6 PL c6)).run Try.prog v7 = .ok (.string (St8 (numB W.length ++ putF [] W))) v7 := run_str v7 A6 _ PL c6 HPL.out (by rw [hv7]; exact HA6.out.drewN q7)
      have hcv2 : (convert 40 9 (.slice A5' Rn c5')).run Try.prog v7 = .ok (.string (St8 r)) v7 := run_str v7 A5' r Rn c5' HRn.out (by rw [hv7]; exact Hr6.out.drewN q7)
      have hcv3 : (convert 40 9 (.slice A2 m c2)).run Try.prog v7 = .ok (.string (St8 X)) v7 := run_str v7 A2 X m c2 Hxl.out (HX.out.below Hb7.out)
      have hadd := fun w' => run_string_add_sum (P := Try.prog) (w := w') (St8 (numB W.length ++ putF [] W)) (St8 r) (by rw [St8_size, St8_size, HPL.out, HRn.out]; omega)
      rw [St8_append, ← HXe.out] at hadd
      clear hv7
      generalize numB W.length ++ putF [] W = PB at *
      go_wp2_with fail
      go_ret
      exact ⟨rfl, Hb7.out⟩
end Go.Proofs.Ytphoccjeakdkeaa
