/- The walk of the reference's Put: values of a kind as bytes. What the column's laws share: few, num, the examples. -/
import Derived.Test.YtojppmnmhdgnnaaGreatMCoRS
import Derived.Test.YtojppmnmhdgnnaaGreatMCoLQ
import Derived.Test.YtojppmnmhdgnnaaGreatMStRd
import Derived.Test.YtojppmnmhdgnnaaGreatMJoA
namespace Go.Proofs.YtojppmnmhdgnnaaGreat
set_option linter.unusedVariables false
set_option linter.unusedSimpArgs false
open Go.RowKit

attribute [local go_sem ↓] Go.wp_at_zero Go.wp_at_succ

theorem numsM_ok {l : RowM} (h : ∀ v ∈ l, v.ok) : ∀ x ∈ numsM l, -9223372036854775808 ≤ x ∧ x ≤ 9223372036854775807 := by
  intro x hx
  obtain ⟨v, hv, rfl⟩ := List.mem_map.1 hx
  exact (h v (List.mem_filter.1 hv).1).n
theorem textsM_ok {kind : Int} {l : RowM} (h : l.all (fitV kind) = true) : ∀ s ∈ textsM l, s.length ≤ 1024 := by
  intro s hs
  obtain ⟨v, hv, rfl⟩ := List.mem_map.1 hs
  have h1 := List.all_eq_true.1 h v (List.mem_filter.1 hv).1
  unfold fitV at h1
  rw [Bool.and_eq_true] at h1
  rcases right_kinds h1.1 with rfl | ⟨t, rfl⟩ | ⟨n, rfl⟩ | ⟨s', rfl, hs'⟩
  · simp
  · simp
  · simp
  · exact hs'

set_option maxHeartbeats 16000000 in
set_option maxRecDepth 100000 in
theorem rputc_any (kind how : Int) (l : RowM) (n c : Nat) (A : Option Addr) (w : World) (hl : l.length = n) (hr : Rd w A (rcells l)) (hn : n ≤ 4096) (hok : ∀ v ∈ l, v.ok) (hkb : 0 ≤ kind ∧ kind ≤ 255) (hhb : 0 ≤ how ∧ how ≤ 255) :
    Calls Tryz.prog 25 #[.int .u8 kind, .slice A n c, .int .u8 how] w fun e w' => CPutOK kind how l w e w' := by
  have hcr := Lib.hid (rkind_any kind w)
  have Hl := Lib.hid hl
  have Hr := Lib.hid hr
  cases hk : kindOk kind
  · have hf : Hid (cputM kind how l = ([], 0, 1)) := by show _ = _; unfold cputM; rw [hk]; rfl
    rw [hk] at hcr
    clear hk hl hr hok
    go_enter Tryz.func25, Tryz.ntmps25
    go_wp2_with fail
    refine hcr.out.mono ?_
    rintro e w1 ⟨rfl, rfl⟩
    go_wp2_with fail
    go_ret3
    exact CPutOK.err hf.out (Below.refl _ _)
  · rw [hk] at hcr
    by_cases h1 : how < 1
    · have hf : Hid (cputM kind how l = ([], 0, 1)) := by
        show _ = _
        have : howOk how = false := by unfold howOk; exact decide_eq_false (by omega)
        unfold cputM
        rw [hk, this]
        rfl
      clear hk hl hr hok
      go_enter Tryz.func25, Tryz.ntmps25
      go_wp2_with fail
      refine hcr.out.mono ?_
      rintro e w1 ⟨rfl, rfl⟩
      go_wp2_with fail
      go_ret3
      exact CPutOK.err hf.out (Below.refl _ _)
    · by_cases h5 : 5 < how
      · have hf : Hid (cputM kind how l = ([], 0, 1)) := by
          show _ = _
          have : howOk how = false := by unfold howOk; exact decide_eq_false (by omega)
          unfold cputM
          rw [hk, this]
          rfl
        clear hk hl hr hok
        go_enter Tryz.func25, Tryz.ntmps25
        go_wp2_with fail
        refine hcr.out.mono ?_
        rintro e w1 ⟨rfl, rfl⟩
        go_wp2_with fail
        go_ret3
        exact CPutOK.err hf.out (Below.refl _ _)
      · have hho : howOk how = true := by unfold howOk; exact decide_eq_true (by omega)
        have Hk := Lib.hid hk
        have Hho := Lib.hid hho
        have Hok := Lib.hid hok
        have hbad : Hid (∀ v ∈ l, fitV kind v = false → cputM kind how l = ([], 0, 7)) := fun v hv hf => by
          have h : l.all (fitV kind) = false := by rw [List.all_eq_false]; exact ⟨v, hv, by rw [hf]; simp⟩
          unfold cputM
          rw [hk, hho, h]
          rfl
        clear hk hl hr hok hho
        go_enter Tryz.func25, Tryz.ntmps25
        go_wp2_with fail
        refine hcr.out.mono ?_
        rintro e w1 ⟨rfl, rfl⟩
        go_wp2_with fail
        go_loopw [9] (fun vi wr => ∃ i : Nat, vi = .int .i64 (i : Int) ∧ i ≤ n ∧ Hid ((l.take i).all (fitV kind) = true) ∧ Hid (Below w.heap.size w wr)) (fun vi _ => n - (intOf vi).toNat)
        case atStart => exact ⟨0, rfl, by omega, rfl, Below.refl _ _⟩
        case round =>
          obtain ⟨i, rfl, hi, Hall, Hb⟩ := hrel
          by_cases hin : i < n
          · have hil : i < l.length := by rw [Hl.out]; exact hin
            have hiI : (i : Int) < (n : Int) := by omega
            have hi0 : (0 : Int) ≤ (i : Int) := by omega
            obtain ⟨b, o, rfl, c0, c1, c2⟩ := row_cells (Hr.out.below Hb.out) hil
            have Hcell : Hid (∀ w', Below w.heap.size w w' → w'.cell? ⟨b, o + i * 3, none⟩ = some (.int .u8 l[i].k)) := fun w' h => by
              obtain ⟨b', o', e, d0, _⟩ := row_cells (Hr.out.below h) hil
              cases e
              exact d0
            have Htk : Hid (l.take (i + 1) = l.take i ++ [l[i]]) := List.take_succ_eq_append_getElem hil
            have Hmm : Hid (l[i] ∈ l) := List.getElem_mem hil
            generalize l[i] = v at *
            have hrg := Lib.hid (right_any v wr)
            have Hbad := Lib.hid (hbad.out v Hmm.out)
            have Hgood : Hid (fitV kind v = true → (l.take (i + 1)).all (fitV kind) = true) := fun h => by
              rw [Htk.out, List.all_append, Hall.out]
              simp [h]
            obtain ⟨vk, vn, vs⟩ := v
            dsimp only at c0 c1 c2 Hcell
            unfold Va.agg at hrg
            dsimp only at hrg
            cases hrv : rightV ⟨vk, vn, vs⟩
            · have hf : Hid (cputM kind how l = ([], 0, 7)) := Hbad.out (by unfold fitV; rw [hrv]; rfl)
              rw [hrv] at hrg
              clear hrv Hbad Hgood Htk Hmm Hcell hil
              go_wp2_with fail
              refine hrg.out.mono ?_
              rintro e w2 ⟨rfl, hb2⟩
              have Hb2 := Lib.hid (Hb.out.trans (hb2.mono Hb.out.size))
              clear hb2 c0 c1 c2
              go_wp2_with fail
              go_ret3
              exact CPutOK.err hf.out Hb2.out
            · rw [hrv] at hrg
              by_cases hk0 : vk = 0
              · subst hk0
                have hfit := Lib.hid (Hgood.out (by unfold fitV; rw [hrv]; simp))
                clear hrv Hbad Hgood Htk Hmm hil
                go_wp2_with fail
                refine hrg.out.mono ?_
                rintro e w2 ⟨rfl, hb2⟩
                have Hb2 := Lib.hid (Hb.out.trans (hb2.mono Hb.out.size))
                have d0 := Hcell.out w2 Hb2.out
                clear hb2 c0 c1 c2
                go_wp2_with fail
                go_roundw
                case rel => exact ⟨i + 1, by go_num, by omega, hfit, Hb2⟩
                case measure => simp only [intOf, Int.toNat_natCast]; omega
              · have e0 : (vk != 0) = true := by rw [bne_iff_ne]; exact hk0
                by_cases hkk : vk = kind
                · subst hkk
                  have hfit := Lib.hid (Hgood.out (by unfold fitV; rw [hrv]; simp))
                  clear hrv Hbad Hgood Htk Hmm hil hk0
                  go_wp2_with fail
                  refine hrg.out.mono ?_
                  rintro e w2 ⟨rfl, hb2⟩
                  have Hb2 := Lib.hid (Hb.out.trans (hb2.mono Hb.out.size))
                  have d0 := Hcell.out w2 Hb2.out
                  clear hb2 c0 c1 c2
                  go_wp2_with fail
                  go_roundw
                  case rel => exact ⟨i + 1, by go_num, by omega, hfit, Hb2⟩
                  case measure => simp only [intOf, Int.toNat_natCast]; omega
                · have ek : (vk != kind) = true := by rw [bne_iff_ne]; exact hkk
                  have hf : Hid (cputM kind how l = ([], 0, 7)) := Hbad.out (by unfold fitV; rw [hrv]; simp [hk0, hkk])
                  clear hrv Hbad Hgood Htk Hmm hil hk0 hkk
                  go_wp2_with fail
                  refine hrg.out.mono ?_
                  rintro e w2 ⟨rfl, hb2⟩
                  have Hb2 := Lib.hid (Hb.out.trans (hb2.mono Hb.out.size))
                  have d0 := Hcell.out w2 Hb2.out
                  clear hb2 c0 c1 c2
                  go_wp2_with fail
                  go_ret3
                  exact CPutOK.err hf.out Hb2.out
          · obtain rfl : i = n := by omega
            have hall : l.all (fitV kind) = true := by
              have := Hall.out
              rw [List.take_of_length_le (by rw [Hl.out]; exact Nat.le_refl _)] at this
              exact this
            have hok := Hok.out
            have hk := Hk.out
            have hho := Hho.out
            have hNi := numsM_ok hok
            have hXi := textsM_ok hall
            have hNl : (numsM l).length = (someM l).length := by unfold numsM; rw [List.length_map]
            have hXl : (textsM l).length = (someM l).length := by unfold textsM; rw [List.length_map]
            have hsl : (someM l).length ≤ 4096 := Nat.le_trans (someM_le l) (by rw [Hl.out]; exact hn)
            have hth := there_in l
            have htl := thereM_len l
            rw [Hl.out] at htl
            have hrl := runsB_le hth (by omega)
            have hNk : (numsK kind l).length ≤ 4096 := by
              unfold numsK
              split
              · simp
              · rw [hNl]; exact hsl
            have hXk : (textsK kind l).length ≤ 4096 := by
              unfold textsK
              split
              · rw [hXl]; exact hsl
              · simp
            have hll := layP_le (kind := kind) (how := how) (nums_in (kind := kind) hok) hNk (texts_in hall) hXk
            have hby0 := by_lay kind how l hho
            rw [hby0] at hll
            have hcp : cputM kind how l = (byteN (layP kind how (numsK kind l) (textsK kind l)).2.toNat :: (numB (runsB (thereM l)).length ++ (runsB (thereM l) ++ (layP kind how (numsK kind l) (textsK kind l)).1)), (layP kind how (numsK kind l) (textsK kind l)).2, 0) := by
              unfold cputM
              rw [hk, hho, hall, if_neg (by decide), if_pos rfl]
              unfold colB
              rw [lay_parts]
            rw [hby0] at hcp
            have Hcp := Lib.hid hcp
            have Hth := Lib.hid hth
            have Htl := Lib.hid htl
            have HNi := Lib.hid hNi
            have HXi := Lib.hid hXi
            have hpa := Lib.hid (rparts_any l i c A wr Hl.out (Hr.out.below Hb.out) hn)
            obtain ⟨M, hM⟩ : ∃ M, (someM l).length = M := ⟨_, rfl⟩
            rw [hM] at hNl hXl hsl
            have HNl := Lib.hid hNl
            have HXl := Lib.hid hXl
            obtain ⟨T, hT⟩ : ∃ T, runsB (thereM l) = T := ⟨_, rfl⟩
            have HT := Lib.hid hT
            rw [hT] at hrl
            obtain ⟨TL, hTL⟩ : ∃ TL, T.length = TL := ⟨_, rfl⟩
            rw [hTL] at hrl
            have HTL := Lib.hid hTL
            have ht9 := numB_le9 (n := TL) (by omega)
            have hwT : IntKind.u64.wrap (TL : Int) = (TL : Int) := by rw [IntKind.wrap_u64]; omega
            have Hll := Lib.hid hll
            clear hok hk hho hall hNi hXi hNl hXl hth htl hby0 hcp hM hT hTL hll hbad hNk hXk
            generalize wr = wo at *
            go_wp2_with fail
            refine hpa.out.mono ?_
            rintro e w2 ⟨⟨TA, tc, NA, nc, XA, xc, rfl, hrT, hrN, hrX⟩, hb2⟩
            rw [Htl.out, HNl.out, HXl.out]
            have Hb2 := Lib.hid (Hb.out.trans (hb2.mono Hb.out.size))
            have HrT := Lib.hid hrT
            have HrN := Lib.hid hrN
            have HrX := Lib.hid hrX
            clear hb2 hrT hrN hrX hpa
            have hby := Lib.hid (by_any kind how Hk.out Hho.out (numsM l) (textsM l) M nc xc NA XA w2 HrN.out HrX.out HNl.out HXl.out hsl HNi.out HXi.out)
            go_wp2_with fail
            refine hby.out.mono ?_
            rintro e w3 ⟨h3, hb3⟩
            have Hb3 := Lib.hid (Hb2.out.trans (hb3.mono Hb2.out.size))
            replace HrT := Lib.hid (HrT.out.below hb3)
            replace HrN := Lib.hid (HrN.out.below hb3)
            replace HrX := Lib.hid (HrX.out.below hb3)
            clear hb3 hby
            rcases h3 with ⟨hx, rfl⟩ | ⟨B, A3, c3, hx, rfl, ho3⟩
            · have Hx := Lib.hid hx
              have hby := Lib.hid (by_any kind 1 Hk.out rfl (numsM l) (textsM l) M nc xc NA XA w3 HrN.out HrX.out HNl.out HXl.out hsl HNi.out HXi.out)
              clear hx
              go_wp2_with fail
              refine hby.out.mono ?_
              rintro e w4 ⟨h4, hb4⟩
              have Hb4 := Lib.hid (Hb3.out.trans (hb4.mono Hb3.out.size))
              replace HrT := Lib.hid (HrT.out.below hb4)
              clear hb4 hby
              rcases h4 with ⟨hx4, _⟩ | ⟨B, A3, c3, hx4, rfl, ho3⟩
              · cases hx4
              · have hB : plainR kind (numsM l) (textsM l) = B := by injection hx4
                rw [Hx.out] at Hll Hcp
                dsimp only at Hll Hcp
                rw [hB] at Hll Hcp
                obtain ⟨BL, hBL⟩ : ∃ BL, B.length = BL := ⟨_, rfl⟩
                rw [hBL] at Hll ho3 ⊢
                have hll : BL ≤ 5000000 := Hll.out
                have HBL := Lib.hid hBL
                have Hr3 := Lib.hid ho3.rd
                clear hB hx4 ho3 hBL
                go_wp2_with fail
                refine (rrunsput_any (thereM l) i tc TA w4 Htl.out HrT.out hn Hth.out).mono ?_
                rintro e w5 h5
                rw [HT.out] at h5
                obtain ⟨⟨A5, c5, rfl, ho5⟩, hb5⟩ := h5.len HTL.out
                have Hb5 := Lib.hid (Hb4.out.trans (hb5.mono Hb4.out.size))
                have Hr5 := Lib.hid ho5.rd
                have Hr35 := Lib.hid (Hr3.out.below hb5)
                clear h5 ho5 hb5
                go_wp2_with fail
                have hbU : Below w5.heap.size w5 (w5.alloc (.cells #[.int .u8 1] 5)) := (Below.refl _ _).alloc (Nat.le_refl _) _
                have HrU : Hid (Rd (w5.alloc (.cells #[.int .u8 1] 5)) (some ⟨w5.heap.size, 0, none⟩) (Bs [byteN 1])) := by
                  have h := Rd.new w5 [.int .u8 1] 5
                  show Rd _ _ _
                  rw [Bs_byte (by omega)]
                  exact h
                have HbU := Lib.hid (Hb5.out.trans (hbU.mono Hb5.out.size))
                have Hr5U := Lib.hid (Hr5.out.below hbU)
                have Hr35U := Lib.hid (Hr35.out.below hbU)
                clear hbU
                refine (rnum_any [byteN 1] 1 1 TL (some ⟨w5.heap.size, 0, none⟩) _ rfl HrU.out (by omega) (by omega)).mono ?_
                rintro e w6 ⟨A6, c6, rfl, ho6, hb6⟩
                have Hb6 := Lib.hid (HbU.out.trans (hb6.mono HbU.out.size))
                have Ho6 := Lib.hid (ho6.lower HbU.out.size)
                have Hr56 := Lib.hid (Hr5U.out.below hb6)
                have Ho6' := Lib.hid ho6
                have Hb56 := Lib.hid hb6
                clear ho6 hb6
                go_wp2_with (first | (at_builtin; refine hold ?_) | (at_make; refine hold ?_))
                (with_reducible refine unhold ?_)
                refine wpList_apd rfl _ _ _ rfl E8 w.heap.size _ (1 + (numB TL).length) _ (Bs ([byteN 1] ++ numB TL)) rfl Ho6.out _ TL _ (Bs T) rfl (by rw [Bs, List.length_map, HTL.out, Nat.mul_one]) Hr56.out (Bs_one T) (1 + (numB TL).length + TL) rfl (Bs (([byteN 1] ++ numB TL) ++ T)) (by rw [Bs, Bs, ← List.map_append]) (by omega) (by omega) Hb6.out.size ?_
                intro A7 c7 w7 ho7 hg7 hw7
                have Hb7 := Lib.hid (Hb6.out.grown hg7 Hb6.out.size Ho6.out.row_ge)
                have Ho7 := Lib.hid ho7
                have Hr37 := Lib.hid (Hr35U.out.below (Hb56.out.grown hg7 Hb56.out.size Ho6'.out.row_ge))
                clear ho7 hg7 hw7
                go_wp2_with (first | (at_builtin; refine hold ?_) | (at_make; refine hold ?_))
                (with_reducible refine unhold ?_)
                refine wpList_apd rfl _ _ _ rfl E8 w.heap.size _ (1 + (numB TL).length + TL) _ (Bs (([byteN 1] ++ numB TL) ++ T)) rfl Ho7.out _ BL _ (Bs B) rfl (by rw [Bs, List.length_map, HBL.out, Nat.mul_one]) Hr37.out (Bs_one B) (1 + (numB TL).length + TL + BL) rfl (Bs ((([byteN 1] ++ numB TL) ++ T) ++ B)) (by rw [Bs, Bs, ← List.map_append]) (by omega) (by omega) Hb7.out.size ?_
                intro A8 c8 w8 ho8 hg8 _
                have Hb8 := Lib.hid (Hb7.out.grown hg8 Hb7.out.size Ho7.out.row_ge)
                have Ho8 := Lib.hid ho8
                have Hres : Hid (cputM kind how l = ((([byteN 1] ++ numB TL) ++ T) ++ B, 1, 0)) := by
                  show _ = _
                  rw [Hcp.out, HT.out, HTL.out]
                  simp
                have Hlen : Hid (((([byteN 1] ++ numB TL) ++ T) ++ B).length = 1 + (numB TL).length + TL + BL) := by
                  show _ = _
                  simp only [List.length_append, List.length_cons, List.length_nil, HTL.out, HBL.out]
                clear ho8 hg8
                go_wp2_with fail
                go_ret3
                exact CPutOK.of Hres.out Ho8.out Hlen.out Hb8.out
            · have Hx := Lib.hid hx
              rw [hx] at Hll Hcp
              dsimp only at Hll Hcp
              obtain ⟨BL, hBL⟩ : ∃ BL, B.length = BL := ⟨_, rfl⟩
              rw [hBL] at Hll ho3 ⊢
              have hll : BL ≤ 5000000 := Hll.out
              have HBL := Lib.hid hBL
              have Hr3 := Lib.hid ho3.rd
              obtain ⟨U, hU⟩ : ∃ U : Nat, how = (U : Int) := ⟨how.toNat, by omega⟩
              have hU5 : U ≤ 5 := by omega
              subst hU
              have Hb4 := Hb3
              clear hx ho3 hBL
              go_wp2_with fail
              refine (rrunsput_any (thereM l) i tc TA w3 Htl.out HrT.out hn Hth.out).mono ?_
              rintro e w5 h5
              rw [HT.out] at h5
              obtain ⟨⟨A5, c5, rfl, ho5⟩, hb5⟩ := h5.len HTL.out
              have Hb5 := Lib.hid (Hb4.out.trans (hb5.mono Hb4.out.size))
              have Hr5 := Lib.hid ho5.rd
              have Hr35 := Lib.hid (Hr3.out.below hb5)
              clear h5 ho5 hb5
              go_wp2_with fail
              have hbU : Below w5.heap.size w5 (w5.alloc (.cells #[.int .u8 (U : Int)] 5)) := (Below.refl _ _).alloc (Nat.le_refl _) _
              have HrU : Hid (Rd (w5.alloc (.cells #[.int .u8 (U : Int)] 5)) (some ⟨w5.heap.size, 0, none⟩) (Bs [byteN U])) := by
                have h := Rd.new w5 [.int .u8 (U : Int)] 5
                show Rd _ _ _
                rw [Bs_byte (by omega)]
                exact h
              have HbU := Lib.hid (Hb5.out.trans (hbU.mono Hb5.out.size))
              have Hr5U := Lib.hid (Hr5.out.below hbU)
              have Hr35U := Lib.hid (Hr35.out.below hbU)
              clear hbU
              refine (rnum_any [byteN U] 1 1 TL (some ⟨w5.heap.size, 0, none⟩) _ rfl HrU.out (by omega) (by omega)).mono ?_
              rintro e w6 ⟨A6, c6, rfl, ho6, hb6⟩
              have Hb6 := Lib.hid (HbU.out.trans (hb6.mono HbU.out.size))
              have Ho6 := Lib.hid (ho6.lower HbU.out.size)
              have Hr56 := Lib.hid (Hr5U.out.below hb6)
              have Ho6' := Lib.hid ho6
              have Hb56 := Lib.hid hb6
              clear ho6 hb6
              go_wp2_with (first | (at_builtin; refine hold ?_) | (at_make; refine hold ?_))
              (with_reducible refine unhold ?_)
              refine wpList_apd rfl _ _ _ rfl E8 w.heap.size _ (1 + (numB TL).length) _ (Bs ([byteN U] ++ numB TL)) rfl Ho6.out _ TL _ (Bs T) rfl (by rw [Bs, List.length_map, HTL.out, Nat.mul_one]) Hr56.out (Bs_one T) (1 + (numB TL).length + TL) rfl (Bs (([byteN U] ++ numB TL) ++ T)) (by rw [Bs, Bs, ← List.map_append]) (by omega) (by omega) Hb6.out.size ?_
              intro A7 c7 w7 ho7 hg7 hw7
              have Hb7 := Lib.hid (Hb6.out.grown hg7 Hb6.out.size Ho6.out.row_ge)
              have Ho7 := Lib.hid ho7
              have Hr37 := Lib.hid (Hr35U.out.below (Hb56.out.grown hg7 Hb56.out.size Ho6'.out.row_ge))
              clear ho7 hg7 hw7
              go_wp2_with (first | (at_builtin; refine hold ?_) | (at_make; refine hold ?_))
              (with_reducible refine unhold ?_)
              refine wpList_apd rfl _ _ _ rfl E8 w.heap.size _ (1 + (numB TL).length + TL) _ (Bs (([byteN U] ++ numB TL) ++ T)) rfl Ho7.out _ BL _ (Bs B) rfl (by rw [Bs, List.length_map, HBL.out, Nat.mul_one]) Hr37.out (Bs_one B) (1 + (numB TL).length + TL + BL) rfl (Bs ((([byteN U] ++ numB TL) ++ T) ++ B)) (by rw [Bs, Bs, ← List.map_append]) (by omega) (by omega) Hb7.out.size ?_
              intro A8 c8 w8 ho8 hg8 _
              have Hb8 := Lib.hid (Hb7.out.grown hg8 Hb7.out.size Ho7.out.row_ge)
              have Ho8 := Lib.hid ho8
              have Hres : Hid (cputM kind (U : Int) l = ((([byteN U] ++ numB TL) ++ T) ++ B, (U : Int), 0)) := by
                show _ = _
                rw [Hcp.out, HT.out, HTL.out]
                simp
              have Hlen : Hid (((([byteN U] ++ numB TL) ++ T) ++ B).length = 1 + (numB TL).length + TL + BL) := by
                show _ = _
                simp only [List.length_append, List.length_cons, List.length_nil, HTL.out, HBL.out]
              clear ho8 hg8
              go_wp2_with fail
              go_ret3
              exact CPutOK.of Hres.out Ho8.out Hlen.out Hb8.out
end Go.Proofs.YtojppmnmhdgnnaaGreat
namespace Go.Proofs.YtojppmnmhdgnnaaGreat
set_option linter.unusedVariables false
set_option linter.unusedSimpArgs false
open Go.RowKit

attribute [local go_sem ↓] Go.wp_at_zero Go.wp_at_succ

theorem rd_take {l : RowM} {A : Option Addr} {w : World} (hr : Rd w A (rcells l)) (k : Nat) : Rd w A (rcells (l.take k)) := by
  have h : rcells l = rcells (l.take k) ++ rcells (l.drop k) := by
    unfold rcells
    rw [← List.flatMap_append, List.take_append_drop]
  rw [h] at hr
  intro hne
  obtain ⟨b, o, e, hr'⟩ := hr (fun e => hne (List.append_eq_nil_iff.1 e).1)
  exact ⟨b, o, e, fun j v hj => hr' j v (by rw [List.getElem?_append_left (List.getElem?_eq_some_iff.1 hj).1]; exact hj)⟩

set_option maxRecDepth 100000 in
theorem num12_any (x : Int) (w : World) : Calls Tryz.prog 28 #[.int .i64 x] w fun e w' => e = .returned (.agg #[.int .u8 2, .int .i64 x, .string ⟨#[]⟩]) ∧ Below w.heap.size w w' := by
  have hb3 : Hid (Below w.heap.size w (w.alloc (.cells #[.int .u8 2, .int .i64 x, .string ⟨#[]⟩] 60))) := (Below.refl _ _).alloc (Nat.le_refl _) _
  have hk3 : Hid (Blk (w.alloc (.cells #[.int .u8 2, .int .i64 x, .string ⟨#[]⟩] 60)) w.heap.size 60 [.int .u8 2, .int .i64 x, .string ⟨#[]⟩]) := Blk.new w 60 #[.int .u8 2, .int .i64 x, .string ⟨#[]⟩]
  go_enter Tryz.func28, Tryz.ntmps28
  go_wp2_with fail
  (try simp only [Exit.inBlock, Exit.then]); refine bodyPost_ret (results_cell_row rfl _ _ w.heap.size 60 #[.int .u8 2, .int .i64 x, .string ⟨#[]⟩] (0, 0) _ rfl hk3.out Tryz.underlying60 rfl (by kernel_rfl)) rfl ?_
  exact ⟨rfl, hb3.out⟩

theorem ex_runs : cputM 2 2 [⟨2, 5, []⟩, ⟨0, 0, []⟩, ⟨2, 5, []⟩] = ([2, 7, 3, 2, 1, 0, 1, 2, 1, 1, 10, 2], 2, 0) := by decide +kernel
theorem ex_dict : (cputM 2 3 [⟨2, 5, []⟩, ⟨0, 0, []⟩, ⟨2, 5, []⟩]).2 = (1, 0) := by decide +kernel

set_option maxHeartbeats 8000000 in
set_option maxRecDepth 100000 in
theorem shown_any (w : World) : Calls Tryz.prog 8 #[] w fun e w' => e = .returned (.bool true) ∧ Below w.heap.size w w' := by
  have hok : ∀ v ∈ ([⟨2, 5, []⟩, ⟨0, 0, []⟩, ⟨2, 5, []⟩] : RowM), v.ok := by
    intro v hv
    rcases List.mem_cons.1 hv with rfl | hv
    · exact ⟨by decide, by decide, by decide⟩
    rcases List.mem_cons.1 hv with rfl | hv
    · exact ⟨by decide, by decide, by decide⟩
    rcases List.mem_cons.1 hv with rfl | hv
    · exact ⟨by decide, by decide, by decide⟩
    · simp at hv
  have Hok := Lib.hid hok
  clear hok
  go_enter Tryz.func8, Tryz.ntmps8
  go_wp2_with fail
  refine (num12_any 5 w).mono ?_
  rintro e w1 ⟨rfl, hb1⟩
  have Hb1 := Lib.hid hb1
  clear hb1
  go_wp2_with fail
  refine (num12_any 5 w1).mono ?_
  rintro e w2 ⟨rfl, hb2⟩
  have Hb2 := Lib.hid (Hb1.out.trans (hb2.mono Hb1.out.size))
  clear hb2
  go_wp2_with fail
  have hbA : Below w2.heap.size w2 (w2.alloc (.cells #[.int .u8 2, .int .i64 5, .string ⟨#[]⟩, .int .u8 0, .int .i64 0, .string ⟨#[]⟩, .int .u8 2, .int .i64 5, .string ⟨#[]⟩] 60)) := (Below.refl _ _).alloc (Nat.le_refl _) _
  have Hr3 : Hid (Rd (w2.alloc (.cells #[.int .u8 2, .int .i64 5, .string ⟨#[]⟩, .int .u8 0, .int .i64 0, .string ⟨#[]⟩, .int .u8 2, .int .i64 5, .string ⟨#[]⟩] 60)) (some ⟨w2.heap.size, 0, none⟩) (rcells [⟨2, 5, []⟩, ⟨0, 0, []⟩, ⟨2, 5, []⟩])) := Rd.new w2 [.int .u8 2, .int .i64 5, .string ⟨#[]⟩, .int .u8 0, .int .i64 0, .string ⟨#[]⟩, .int .u8 2, .int .i64 5, .string ⟨#[]⟩] 60
  have Hb3 := Lib.hid (Hb2.out.trans (hbA.mono Hb2.out.size))
  clear hbA
  refine (cputc_any 2 2 [⟨2, 5, []⟩, ⟨0, 0, []⟩, ⟨2, 5, []⟩] 3 3 (some ⟨w2.heap.size, 0, none⟩) _ rfl Hr3.out (by omega) Hok.out (by omega) (by omega)).mono ?_
  intro e w4 h4
  unfold CPutOK at h4
  rw [ex_runs] at h4
  obtain ⟨⟨A4, c4, rfl, ho4⟩, hb4⟩ := h4
  dsimp only [List.length_cons, List.length_nil] at ho4 ⊢
  have Hb4 := Lib.hid (Hb3.out.trans (hb4.mono Hb3.out.size))
  have Hr4 := Lib.hid (Hr3.out.below hb4)
  have Ho4 := Lib.hid ho4.rd
  clear hb4 ho4
  go_wp2_with fail
  refine (cputc_any 2 3 [⟨2, 5, []⟩, ⟨0, 0, []⟩, ⟨2, 5, []⟩] 3 3 (some ⟨w2.heap.size, 0, none⟩) w4 rfl Hr4.out (by omega) Hok.out (by omega) (by omega)).mono ?_
  intro e w5 h5
  unfold CPutOK at h5
  rw [ex_dict] at h5
  obtain ⟨⟨A5, c5, rfl, _⟩, hb5⟩ := h5
  have Hb5 := Lib.hid (Hb4.out.trans (hb5.mono Hb4.out.size))
  have Ho5 := Lib.hid (Ho4.out.below hb5)
  clear hb5
  generalize (cputM 2 3 [⟨2, 5, []⟩, ⟨0, 0, []⟩, ⟨2, 5, []⟩]).1.length = L5 at *
  have hcv := run_str w5 A4 [2, 7, 3, 2, 1, 0, 1, 2, 1, 1, 10, 2] 12 c4 rfl Ho5.out
  have hcq : ((St8 [2, 7, 3, 2, 1, 0, 1, 2, 1, 1, 10, 2]).toList == [2, 7, 3, 2, 1, 0, 1, 2, 1, 1, 10, 2]) = true := by
    rw [St8_list]
    exact beq_self_eq_true _
  go_wp2_with fail
  go_ret
  exact ⟨rfl, Hb5.out⟩
theorem cshown_any (w : World) : Calls Tryz.prog 8 #[] w fun e w' => e = .returned (.bool true) ∧ Below w.heap.size w w' := shown_any w
end Go.Proofs.YtojppmnmhdgnnaaGreat
