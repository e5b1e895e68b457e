/- Walks: whether a node may be, as the reference finds it. -/
import Derived.Test.YtipnglidepfkbaaDoorMGrP
import Derived.Test.YtipnglidepfkbaaDoorMGrO
namespace Go.Proofs.YtipnglidepfkbaaDoor
set_option linter.unusedVariables false
set_option linter.unusedSimpArgs false
open Go.RowKit

attribute [local go_sem ↓] Go.wp_at_zero Go.wp_at_succ

/-- The same in the reference's order. -/
theorem mayN_ref (kinds : List Int) (op col kids : Int) (v : Va) : mayN kinds ⟨op, col, kids, v⟩ =
    if op < 1 ∨ 8 < op then false
    else if ((op = 2 ∨ op = 3) ∧ (kids < 1 ∨ 40 < kids)) ∨ (¬ (op = 2 ∨ op = 3) ∧ kids ≠ 0) then false
    else if (5 ≤ op ∧ (col < 0 ∨ (kinds.length : Int) ≤ col)) ∨ (op < 5 ∧ col ≠ 0) then false
    else if op = 5 ∨ op = 6 then rightV v && decide (v.k = kinds.getD col.toNat 0)
    else if op = 7 then rightV v && decide (v.k = 3) && decide (kinds.getD col.toNat 0 = 3) && (partsM v.s).2
    else decide (v = Va.nil) := by
  unfold mayN Nd.asks
  dsimp only
  by_cases hv : v = Va.nil
  · simp only [hv, ne_eq, not_true_eq_false, or_false, decide_true, decide_eq_true_eq, decide_eq_false_iff_not]
    repeat' split
    all_goals first | rfl | (exfalso; omega) | (rw [decide_eq_true (by omega)]) | (rw [decide_eq_false (by omega)])
  · simp only [hv, ne_eq, not_false_eq_true, or_true, and_true, decide_false, decide_eq_true_eq, decide_eq_false_iff_not]
    repeat' split
    all_goals first | rfl | (exfalso; omega) | (rw [decide_eq_true (by omega)]) | (rw [decide_eq_false (by omega)])

set_option maxHeartbeats 16000000 in
set_option maxRecDepth 100000 in
theorem rone_c (kinds : List Int) (K : Option Addr) (kn kc : Nat) (n : Nd) (w : World) (hK : Rd w K (kcells kinds)) (hkn : kinds.length = kn) (hs : n.v.s.length ≤ 1000000) (hT : Lib.Utf8Tabs 0 1 w) :
    Calls Tryd.prog 24 #[.slice K kn kc, n.agg] w fun e w' => e = .returned (.bool (mayN kinds n)) ∧ Below w.heap.size w w' := by
  obtain ⟨op, col, kids, k, nn, s⟩ := n
  have hR := mayN_ref kinds op col kids ⟨k, nn, s⟩
  rw [hkn] at hR
  generalize mayN kinds ⟨op, col, kids, k, nn, s⟩ = R at *
  have hRi := Lib.hid (fun w' => right_any ⟨k, nn, s⟩ w')
  have hCh := Lib.hid (fun w' (hb : Below w.heap.size w w') => rcheck_c s w' hs (Utf8Tabs_below hT hb))
  have hCo := Lib.hid (fun w' => column_c op w')
  have hbl := Blk.new w 46 #[.int .u8 op, .int .i64 col, .int .i64 kids, .int .u8 k, .int .i64 nn, .string (St8 s)]
  have hb0 : Below w.heap.size w (w.alloc (.cells #[.int .u8 op, .int .i64 col, .int .i64 kids, .int .u8 k, .int .i64 nn, .string (St8 s)] 46)) := (Below.refl _ _).alloc (Nat.le_refl _) _
  have hb1 : Below (w.alloc (.cells #[.int .u8 op, .int .i64 col, .int .i64 kids, .int .u8 k, .int .i64 nn, .string (St8 s)] 46)).heap.size (w.alloc (.cells #[.int .u8 op, .int .i64 col, .int .i64 kids, .int .u8 k, .int .i64 nn, .string (St8 s)] 46)) ((w.alloc (.cells #[.int .u8 op, .int .i64 col, .int .i64 kids, .int .u8 k, .int .i64 nn, .string (St8 s)] 46)).alloc (.cells #[.int .u8 0, .int .i64 0, .string ⟨#[]⟩] 44)) := (Below.refl _ _).alloc (Nat.le_refl _) _
  have hb2 : Below w.heap.size w ((w.alloc (.cells #[.int .u8 op, .int .i64 col, .int .i64 kids, .int .u8 k, .int .i64 nn, .string (St8 s)] 46)).alloc (.cells #[.int .u8 0, .int .i64 0, .string ⟨#[]⟩] 44)) := hb0.trans (hb1.mono hb0.size)
  have Hb0 := Lib.hid hb0
  have Hb2 := Lib.hid hb2
  have Hc : Hid (∀ w', Below ((w.alloc (.cells #[.int .u8 op, .int .i64 col, .int .i64 kids, .int .u8 k, .int .i64 nn, .string (St8 s)] 46)).alloc (.cells #[.int .u8 0, .int .i64 0, .string ⟨#[]⟩] 44)).heap.size ((w.alloc (.cells #[.int .u8 op, .int .i64 col, .int .i64 kids, .int .u8 k, .int .i64 nn, .string (St8 s)] 46)).alloc (.cells #[.int .u8 0, .int .i64 0, .string ⟨#[]⟩] 44)) w' → (w'.cell? ⟨w.heap.size, 1, none⟩ = some (.int .i64 col) ∧ w'.cell? ⟨w.heap.size, 3, none⟩ = some (.int .u8 k) ∧ w'.cell? ⟨w.heap.size, 4, none⟩ = some (.int .i64 nn) ∧ w'.cell? ⟨w.heap.size, 5, none⟩ = some (.string (St8 s))) ∧ Hid (Below w.heap.size w w')) := fun w' hb => by
    have hh := (hbl.below hb1).below hb
    exact ⟨⟨hh.cell 1, hh.cell 3, hh.cell 4, hh.cell 5⟩, hb2.trans (hb.mono hb2.size)⟩
  have HK : Hid (∀ w' (cj : Nat), Below w.heap.size w w' → cj < kn → ∃ kb ko, K = some ⟨kb, ko, none⟩ ∧ w'.cell? ⟨kb, ko + cj, none⟩ = some (.int .u8 (kinds.getD cj 0))) := fun w' cj hb hcj => by
    obtain ⟨kb, ko, e, hkr⟩ := (hK.below hb) (by intro e; have := congrArg List.length e; rw [kcells_len, List.length_nil, hkn] at this; omega)
    exact ⟨kb, ko, e, hkr cj _ (kcells_get (by rw [hkn]; exact hcj))⟩
  unfold Va.agg at hRi
  unfold Nd.agg
  dsimp only at hRi hCh ⊢
  clear hb0 hb1 hb2 hbl hK hs hT
  by_cases h1 : op < 1
  · have hR2 : Hid (R = false) := by
      show _ = _
      rw [hR, if_pos (.inl h1)]
    clear hR hCh hRi Hc HK
    go_enter Tryd.func24, Tryd.ntmps24
    go_wp2_with fail
    go_ret
    rw [hR2.out]
    exact ⟨rfl, Hb0.out⟩
  · by_cases h8 : 8 < op
    · have hR2 : Hid (R = false) := by
        show _ = _
        rw [hR, if_pos (.inr h8)]
      clear hR hCh hRi Hc HK
      go_enter Tryd.func24, Tryd.ntmps24
      go_wp2_with fail
      go_ret
      rw [hR2.out]
      exact ⟨rfl, Hb0.out⟩
    · by_cases hm : op = 2 ∨ op = 3
      · have hf : (op == 2) = true ∨ ((op == 2) = false ∧ (op == 3) = true) := by
          rcases hm with rfl | rfl
          · exact .inl rfl
          · exact .inr ⟨rfl, rfl⟩
        have e5 : (op == 5) = false := by rw [beq_eq_false_iff_ne]; omega
        have e6 : (op == 6) = false := by rw [beq_eq_false_iff_ne]; omega
        have e7 : (op == 7) = false := by rw [beq_eq_false_iff_ne]; omega
        have hCo2 := Lib.hid (fun w' => by have := hCo.out w'; rw [decide_eq_false (show ¬ (5 ≤ op ∧ op ≤ 8) by omega)] at this; exact this)
        clear hCo
        rcases hf with e2 | ⟨e2, e3⟩
        · by_cases hk1 : kids < 1
          · have hR2 : Hid (R = false) := by
              show _ = _
              rw [hR, if_neg (show ¬ (op < 1 ∨ 8 < op) by omega), if_pos (.inl ⟨hm, .inl hk1⟩)]
            clear hR hm hCh hRi Hc HK
            go_enter Tryd.func24, Tryd.ntmps24
            go_wp2_with fail
            go_ret
            rw [hR2.out]
            exact ⟨rfl, Hb0.out⟩
          · by_cases hk2 : 40 < kids
            · have hR2 : Hid (R = false) := by
                show _ = _
                rw [hR, if_neg (show ¬ (op < 1 ∨ 8 < op) by omega), if_pos (.inl ⟨hm, .inr hk2⟩)]
              clear hR hm hCh hRi Hc HK
              go_enter Tryd.func24, Tryd.ntmps24
              go_wp2_with fail
              go_ret
              rw [hR2.out]
              exact ⟨rfl, Hb0.out⟩
            · by_cases hc : col = 0
              · have hc0 : (col != 0) = false := by simpa using hc
                by_cases hv : (⟨k, nn, s⟩ : Va) = Va.nil
                · have hR2 : Hid (R = true) := by
                    show _ = _
                    rw [hR, if_neg (show ¬ (op < 1 ∨ 8 < op) by omega), if_neg (show ¬ (((op = 2 ∨ op = 3) ∧ (kids < 1 ∨ 40 < kids)) ∨ (¬ (op = 2 ∨ op = 3) ∧ kids ≠ 0)) by omega), if_neg (show ¬ ((5 ≤ op ∧ (col < 0 ∨ (kn : Int) ≤ col)) ∨ (op < 5 ∧ col ≠ 0)) by omega), if_neg (show ¬ (op = 5 ∨ op = 6) by omega), if_neg (show ¬ op = 7 by omega), decide_eq_true hv]
                  cases hv
                  have hs0 : St8 [] = (⟨#[]⟩ : ByteArray) := rfl
                  clear hR hCh hRi Hc HK hc hm
                  go_enter Tryd.func24, Tryd.ntmps24
                  go_wp2_with fail
                  refine (hCo2.out _).mono ?_
                  rintro e w1 ⟨rfl, rfl⟩
                  go_wp2_with fail
                  refine (hCo2.out _).mono ?_
                  rintro e w1 ⟨rfl, rfl⟩
                  go_wp2_with fail
                  go_ret
                  rw [hR2.out]
                  exact ⟨rfl, Hb2.out⟩
                · have hR2 : Hid (R = false) := by
                    show _ = _
                    rw [hR, if_neg (show ¬ (op < 1 ∨ 8 < op) by omega), if_neg (show ¬ (((op = 2 ∨ op = 3) ∧ (kids < 1 ∨ 40 < kids)) ∨ (¬ (op = 2 ∨ op = 3) ∧ kids ≠ 0)) by omega), if_neg (show ¬ ((5 ≤ op ∧ (col < 0 ∨ (kn : Int) ≤ col)) ∨ (op < 5 ∧ col ≠ 0)) by omega), if_neg (show ¬ (op = 5 ∨ op = 6) by omega), if_neg (show ¬ op = 7 by omega), decide_eq_false hv]
                  rcases va_nil_ne hv with h | ⟨rfl, h⟩ | ⟨rfl, rfl, h⟩
                  · have hk0 : (k == 0) = false := by rw [beq_eq_false_iff_ne]; exact h
                    have hk0b : (k != 0) = true := by simpa using h
                    clear hR hv hCh hRi Hc HK hc hm
                    go_enter Tryd.func24, Tryd.ntmps24
                    go_wp2_with fail
                    refine (hCo2.out _).mono ?_
                    rintro e w1 ⟨rfl, rfl⟩
                    go_wp2_with fail
                    refine (hCo2.out _).mono ?_
                    rintro e w1 ⟨rfl, rfl⟩
                    go_wp2_with fail
                    go_ret
                    rw [hR2.out]
                    exact ⟨rfl, Hb2.out⟩
                  · have hk0 : (nn == 0) = false := by rw [beq_eq_false_iff_ne]; exact h
                    have hk0b : (nn != 0) = true := by simpa using h
                    clear hR hv hCh hRi Hc HK hc hm
                    go_enter Tryd.func24, Tryd.ntmps24
                    go_wp2_with fail
                    refine (hCo2.out _).mono ?_
                    rintro e w1 ⟨rfl, rfl⟩
                    go_wp2_with fail
                    refine (hCo2.out _).mono ?_
                    rintro e w1 ⟨rfl, rfl⟩
                    go_wp2_with fail
                    go_ret
                    rw [hR2.out]
                    exact ⟨rfl, Hb2.out⟩
                  · have hk0 : (St8 s == ⟨#[]⟩) = false := by rw [St8_nil_eq, decide_eq_false h]
                    have hk1 : (St8 s).toList.isEmpty = false := by rw [St8_empty, decide_eq_false h]
                    have hk2 : ¬ St8 s = ⟨#[]⟩ := fun e => h (St8_nil_iff s |>.1 e)
                    clear hR hv hCh hRi Hc HK hc hm
                    go_enter Tryd.func24, Tryd.ntmps24
                    go_wp2_with fail
                    refine (hCo2.out _).mono ?_
                    rintro e w1 ⟨rfl, rfl⟩
                    go_wp2_with fail
                    refine (hCo2.out _).mono ?_
                    rintro e w1 ⟨rfl, rfl⟩
                    go_wp2_with fail
                    go_ret
                    rw [hR2.out]
                    exact ⟨rfl, Hb2.out⟩
              · have hc0 : (col != 0) = true := by simpa using hc
                have hR2 : Hid (R = false) := by
                  show _ = _
                  rw [hR, if_neg (show ¬ (op < 1 ∨ 8 < op) by omega), if_neg (show ¬ (((op = 2 ∨ op = 3) ∧ (kids < 1 ∨ 40 < kids)) ∨ (¬ (op = 2 ∨ op = 3) ∧ kids ≠ 0)) by omega), if_pos (.inr ⟨by omega, hc⟩)]
                clear hR hm hc hCh hRi Hc HK
                go_enter Tryd.func24, Tryd.ntmps24
                go_wp2_with fail
                refine (hCo2.out _).mono ?_
                rintro e w1 ⟨rfl, rfl⟩
                go_wp2_with fail
                refine (hCo2.out _).mono ?_
                rintro e w1 ⟨rfl, rfl⟩
                go_wp2_with fail
                go_ret
                rw [hR2.out]
                exact ⟨rfl, Hb0.out⟩
        · by_cases hk1 : kids < 1
          · have hR2 : Hid (R = false) := by
              show _ = _
              rw [hR, if_neg (show ¬ (op < 1 ∨ 8 < op) by omega), if_pos (.inl ⟨hm, .inl hk1⟩)]
            clear hR hm hCh hRi Hc HK
            go_enter Tryd.func24, Tryd.ntmps24
            go_wp2_with fail
            go_ret
            rw [hR2.out]
            exact ⟨rfl, Hb0.out⟩
          · by_cases hk2 : 40 < kids
            · have hR2 : Hid (R = false) := by
                show _ = _
                rw [hR, if_neg (show ¬ (op < 1 ∨ 8 < op) by omega), if_pos (.inl ⟨hm, .inr hk2⟩)]
              clear hR hm hCh hRi Hc HK
              go_enter Tryd.func24, Tryd.ntmps24
              go_wp2_with fail
              go_ret
              rw [hR2.out]
              exact ⟨rfl, Hb0.out⟩
            · by_cases hc : col = 0
              · have hc0 : (col != 0) = false := by simpa using hc
                by_cases hv : (⟨k, nn, s⟩ : Va) = Va.nil
                · have hR2 : Hid (R = true) := by
                    show _ = _
                    rw [hR, if_neg (show ¬ (op < 1 ∨ 8 < op) by omega), if_neg (show ¬ (((op = 2 ∨ op = 3) ∧ (kids < 1 ∨ 40 < kids)) ∨ (¬ (op = 2 ∨ op = 3) ∧ kids ≠ 0)) by omega), if_neg (show ¬ ((5 ≤ op ∧ (col < 0 ∨ (kn : Int) ≤ col)) ∨ (op < 5 ∧ col ≠ 0)) by omega), if_neg (show ¬ (op = 5 ∨ op = 6) by omega), if_neg (show ¬ op = 7 by omega), decide_eq_true hv]
                  cases hv
                  have hs0 : St8 [] = (⟨#[]⟩ : ByteArray) := rfl
                  clear hR hCh hRi Hc HK hc hm
                  go_enter Tryd.func24, Tryd.ntmps24
                  go_wp2_with fail
                  refine (hCo2.out _).mono ?_
                  rintro e w1 ⟨rfl, rfl⟩
                  go_wp2_with fail
                  refine (hCo2.out _).mono ?_
                  rintro e w1 ⟨rfl, rfl⟩
                  go_wp2_with fail
                  go_ret
                  rw [hR2.out]
                  exact ⟨rfl, Hb2.out⟩
                · have hR2 : Hid (R = false) := by
                    show _ = _
                    rw [hR, if_neg (show ¬ (op < 1 ∨ 8 < op) by omega), if_neg (show ¬ (((op = 2 ∨ op = 3) ∧ (kids < 1 ∨ 40 < kids)) ∨ (¬ (op = 2 ∨ op = 3) ∧ kids ≠ 0)) by omega), if_neg (show ¬ ((5 ≤ op ∧ (col < 0 ∨ (kn : Int) ≤ col)) ∨ (op < 5 ∧ col ≠ 0)) by omega), if_neg (show ¬ (op = 5 ∨ op = 6) by omega), if_neg (show ¬ op = 7 by omega), decide_eq_false hv]
                  rcases va_nil_ne hv with h | ⟨rfl, h⟩ | ⟨rfl, rfl, h⟩
                  · have hk0 : (k == 0) = false := by rw [beq_eq_false_iff_ne]; exact h
                    have hk0b : (k != 0) = true := by simpa using h
                    clear hR hv hCh hRi Hc HK hc hm
                    go_enter Tryd.func24, Tryd.ntmps24
                    go_wp2_with fail
                    refine (hCo2.out _).mono ?_
                    rintro e w1 ⟨rfl, rfl⟩
                    go_wp2_with fail
                    refine (hCo2.out _).mono ?_
                    rintro e w1 ⟨rfl, rfl⟩
                    go_wp2_with fail
                    go_ret
                    rw [hR2.out]
                    exact ⟨rfl, Hb2.out⟩
                  · have hk0 : (nn == 0) = false := by rw [beq_eq_false_iff_ne]; exact h
                    have hk0b : (nn != 0) = true := by simpa using h
                    clear hR hv hCh hRi Hc HK hc hm
                    go_enter Tryd.func24, Tryd.ntmps24
                    go_wp2_with fail
                    refine (hCo2.out _).mono ?_
                    rintro e w1 ⟨rfl, rfl⟩
                    go_wp2_with fail
                    refine (hCo2.out _).mono ?_
                    rintro e w1 ⟨rfl, rfl⟩
                    go_wp2_with fail
                    go_ret
                    rw [hR2.out]
                    exact ⟨rfl, Hb2.out⟩
                  · have hk0 : (St8 s == ⟨#[]⟩) = false := by rw [St8_nil_eq, decide_eq_false h]
                    have hk1 : (St8 s).toList.isEmpty = false := by rw [St8_empty, decide_eq_false h]
                    have hk2 : ¬ St8 s = ⟨#[]⟩ := fun e => h (St8_nil_iff s |>.1 e)
                    clear hR hv hCh hRi Hc HK hc hm
                    go_enter Tryd.func24, Tryd.ntmps24
                    go_wp2_with fail
                    refine (hCo2.out _).mono ?_
                    rintro e w1 ⟨rfl, rfl⟩
                    go_wp2_with fail
                    refine (hCo2.out _).mono ?_
                    rintro e w1 ⟨rfl, rfl⟩
                    go_wp2_with fail
                    go_ret
                    rw [hR2.out]
                    exact ⟨rfl, Hb2.out⟩
              · have hc0 : (col != 0) = true := by simpa using hc
                have hR2 : Hid (R = false) := by
                  show _ = _
                  rw [hR, if_neg (show ¬ (op < 1 ∨ 8 < op) by omega), if_neg (show ¬ (((op = 2 ∨ op = 3) ∧ (kids < 1 ∨ 40 < kids)) ∨ (¬ (op = 2 ∨ op = 3) ∧ kids ≠ 0)) by omega), if_pos (.inr ⟨by omega, hc⟩)]
                clear hR hm hc hCh hRi Hc HK
                go_enter Tryd.func24, Tryd.ntmps24
                go_wp2_with fail
                refine (hCo2.out _).mono ?_
                rintro e w1 ⟨rfl, rfl⟩
                go_wp2_with fail
                refine (hCo2.out _).mono ?_
                rintro e w1 ⟨rfl, rfl⟩
                go_wp2_with fail
                go_ret
                rw [hR2.out]
                exact ⟨rfl, Hb0.out⟩
      · have e2 : (op == 2) = false := by rw [beq_eq_false_iff_ne]; omega
        have e3 : (op == 3) = false := by rw [beq_eq_false_iff_ne]; omega
        by_cases hk : kids = 0
        · have hk0 : (kids != 0) = false := by simpa using hk
          by_cases h5 : 5 ≤ op
          · have hCo2 := Lib.hid (fun w' => by have := hCo.out w'; rw [decide_eq_true (show (5 ≤ op ∧ op ≤ 8) by omega)] at this; exact this)
            clear hCo
            by_cases hc1 : col < 0
            · have hR2 : Hid (R = false) := by
                show _ = _
                rw [hR, if_neg (show ¬ (op < 1 ∨ 8 < op) by omega), if_neg (show ¬ (((op = 2 ∨ op = 3) ∧ (kids < 1 ∨ 40 < kids)) ∨ (¬ (op = 2 ∨ op = 3) ∧ kids ≠ 0)) by omega), if_pos (.inl ⟨h5, .inl hc1⟩)]
              clear hR hk hm hCh hRi Hc HK
              go_enter Tryd.func24, Tryd.ntmps24
              go_wp2_with fail
              refine (hCo2.out _).mono ?_
              rintro e w1 ⟨rfl, rfl⟩
              go_wp2_with fail
              go_ret
              rw [hR2.out]
              exact ⟨rfl, Hb0.out⟩
            · by_cases hc2 : (kn : Int) ≤ col
              · have hR2 : Hid (R = false) := by
                  show _ = _
                  rw [hR, if_neg (show ¬ (op < 1 ∨ 8 < op) by omega), if_neg (show ¬ (((op = 2 ∨ op = 3) ∧ (kids < 1 ∨ 40 < kids)) ∨ (¬ (op = 2 ∨ op = 3) ∧ kids ≠ 0)) by omega), if_pos (.inl ⟨h5, .inr hc2⟩)]
                clear hR hk hm hCh hRi Hc HK
                go_enter Tryd.func24, Tryd.ntmps24
                go_wp2_with fail
                refine (hCo2.out _).mono ?_
                rintro e w1 ⟨rfl, rfl⟩
                go_wp2_with fail
                go_ret
                rw [hR2.out]
                exact ⟨rfl, Hb0.out⟩
              · have hcj : col.toNat < kn := by omega
                have hcI0 : (0 : Int) ≤ col := by omega
                have hcI1 : col < (kn : Int) := by omega
                obtain ⟨kb, ko, rfl, hk1⟩ := HK.out w col.toNat (Below.refl _ _) hcj
                have hkk : Hid (∀ w', Below w.heap.size w w' → w'.cell? ⟨kb, ko + col.toNat, none⟩ = some (.int .u8 (kinds.getD col.toNat 0))) := fun w' hb => cell_keep hb hk1
                generalize kinds.getD col.toNat 0 = kk at *
                clear hk1 HK
                by_cases h56 : op = 5 ∨ op = 6
                · have hf : (op == 5) = true ∨ ((op == 5) = false ∧ (op == 6) = true) := by
                    rcases h56 with rfl | rfl
                    · exact .inl rfl
                    · exact .inr ⟨rfl, rfl⟩
                  have Hwd := Lib.hid (show Below ((w.alloc (.cells #[.int .u8 op, .int .i64 col, .int .i64 kids, .int .u8 k, .int .i64 nn, .string (St8 s)] 46)).alloc (.cells #[.int .u8 0, .int .i64 0, .string ⟨#[]⟩] 44)).heap.size ((w.alloc (.cells #[.int .u8 op, .int .i64 col, .int .i64 kids, .int .u8 k, .int .i64 nn, .string (St8 s)] 46)).alloc (.cells #[.int .u8 0, .int .i64 0, .string ⟨#[]⟩] 44)) ((w.alloc (.cells #[.int .u8 op, .int .i64 col, .int .i64 kids, .int .u8 k, .int .i64 nn, .string (St8 s)] 46)).alloc (.cells #[.int .u8 0, .int .i64 0, .string ⟨#[]⟩] 44)).drew from (Below.refl _ _).drew)
                  have Hcc : Hid (∀ w', Below ((w.alloc (.cells #[.int .u8 op, .int .i64 col, .int .i64 kids, .int .u8 k, .int .i64 nn, .string (St8 s)] 46)).alloc (.cells #[.int .u8 0, .int .i64 0, .string ⟨#[]⟩] 44)).heap.size ((w.alloc (.cells #[.int .u8 op, .int .i64 col, .int .i64 kids, .int .u8 k, .int .i64 nn, .string (St8 s)] 46)).alloc (.cells #[.int .u8 0, .int .i64 0, .string ⟨#[]⟩] 44)) w' → (w'.cell? ⟨w.heap.size, 1, none⟩ = some (.int .i64 col) ∧ w'.cell? ⟨w.heap.size, 3, none⟩ = some (.int .u8 k) ∧ w'.cell? ⟨w.heap.size, 4, none⟩ = some (.int .i64 nn) ∧ w'.cell? ⟨w.heap.size, 5, none⟩ = some (.string (St8 s)) ∧ w'.cell? ⟨kb, ko + col.toNat, none⟩ = some (.int .u8 kk)) ∧ Hid (Below w.heap.size w w')) := fun w' hb => by
                    obtain ⟨⟨g1, g3, g4, g5⟩, gb⟩ := Hc.out w' hb
                    exact ⟨⟨g1, g3, g4, g5, hkk.out w' gb.out⟩, gb⟩
                  have hcd := (Hcc.out _ Hwd.out).1
                  clear Hc hkk
                  rcases hf with e5 | ⟨e5, e6⟩
                  · cases hri : rightV ⟨k, nn, s⟩
                    · have hR2 : Hid (R = false) := by
                        show _ = _
                        rw [hR, if_neg (show ¬ (op < 1 ∨ 8 < op) by omega), if_neg (show ¬ (((op = 2 ∨ op = 3) ∧ (kids < 1 ∨ 40 < kids)) ∨ (¬ (op = 2 ∨ op = 3) ∧ kids ≠ 0)) by omega), if_neg (show ¬ ((5 ≤ op ∧ (col < 0 ∨ (kn : Int) ≤ col)) ∨ (op < 5 ∧ col ≠ 0)) by omega), if_pos h56, hri, Bool.false_and]
                      rw [hri] at hRi
                      have HRi := hRi
                      clear hR hk hm hri hRi h56 hCh
                      go_enter Tryd.func24, Tryd.ntmps24
                      go_wp2_with fail
                      refine (hCo2.out _).mono ?_
                      rintro e w1 ⟨rfl, rfl⟩
                      go_wp2_with fail
                      refine (hCo2.out _).mono ?_
                      rintro e w1 ⟨rfl, rfl⟩
                      go_wp2_with fail
                      refine wp_region_held_drew (S := fun w' => w'.cell? ⟨w.heap.size, 1, none⟩ = some (.int .i64 col) ∧ w'.cell? ⟨w.heap.size, 3, none⟩ = some (.int .u8 k) ∧ w'.cell? ⟨w.heap.size, 4, none⟩ = some (.int .i64 nn) ∧ w'.cell? ⟨w.heap.size, 5, none⟩ = some (.string (St8 s)) ∧ w'.cell? ⟨kb, ko + col.toNat, none⟩ = some (.int .u8 kk)) (by kernel_rfl) hcd (fun hHeld => ?_)
                      (refine wpAnyH_take (i := 0) (oi := ?oi0_1) (v := ?vv0_1) ?hi0_1 (by kernel_rfl) (by kernel_rfl) (by kernel_rfl) ?hQ0_1 ?hy0_1 (by assumption) ?rest0_1; (case hi0_1 => ((simp only [List.getElem?_toArray, List.getElem?_cons_zero]); rfl)); (case hQ0_1 => exact (fun _ _ _ h => h)); (case hy0_1 => (refine Or.inl ⟨by rfl, ?_⟩; intro w hSw; (try dsimp only at hSw); go_simp; try (with_reducible rfl))); (try simp only [Act.put, List.setIfInBounds_toArray, List.set_cons_zero, List.set_cons_succ]))
                      (refine wpAnyH_take (i := 1) (oi := ?oi1_2) (v := ?vv1_2) ?hi1_2 (by kernel_rfl) (by kernel_rfl) (by kernel_rfl) ?hQ1_2 ?hy1_2 (by assumption) ?rest1_2; (case hi1_2 => ((simp only [List.getElem?_toArray, List.getElem?_cons_succ, List.getElem?_cons_zero]); rfl)); (case hQ1_2 => exact (fun _ _ _ h => h)); (case hy1_2 => (refine Or.inl ⟨by rfl, ?_⟩; intro w hSw; (try dsimp only at hSw); go_simp; try (with_reducible rfl))); (try simp only [Act.put, List.setIfInBounds_toArray, List.set_cons_zero, List.set_cons_succ]))
                      (refine wpAnyH_ready (rs := [2]) (by kernel_rfl) (by simp) ?_; refine AllReadyH.cons (o := ?oc2_3) ?ho2_3 (fun K hK => ?_) AllReadyH.nil; (case ho2_3 => ((simp only [List.getElem?_toArray, List.getElem?_cons_succ, List.getElem?_cons_zero]); rfl)); go_simp)
                      go_at_call 51
                      refine (HRi.out _).mono ?_
                      rintro e w3 ⟨rfl, hb3⟩
                      have hb3 := Hwd.out.trans (hb3.mono Hwd.out.size)
                      have hc3 := (Hcc.out w3 hb3).1
                      have HB3 := (Hcc.out w3 hb3).2
                      clear hHeld hb3
                      go_wp2_with fail
                      refine hK.out _ _ hc3 (fun hHeld => ?_)
                      clear hK
                      (try simp only [Act.put, List.setIfInBounds_toArray, List.set_cons_zero, List.set_cons_succ])
                      (refine wpAnyH_take (i := 3) (oi := ?oi3_4) (v := ?vv3_4) ?hi3_4 (by kernel_rfl) (by kernel_rfl) (by kernel_rfl) ?hQ3_4 ?hy3_4 (by assumption) ?rest3_4; (case hi3_4 => ((simp only [List.getElem?_toArray, List.getElem?_cons_succ, List.getElem?_cons_zero]); rfl)); (case hQ3_4 => exact (fun _ _ _ h => h)); (case hy3_4 => (refine Or.inl ⟨by rfl, ?_⟩; intro w hSw; (try dsimp only at hSw); go_simp; try (with_reducible rfl))); (try simp only [Act.put, List.setIfInBounds_toArray, List.set_cons_zero, List.set_cons_succ]))
                      (refine wpAnyH_take (i := 4) (oi := ?oi4_5) (v := undef) ?hi4_5 (by kernel_rfl) (by kernel_rfl) (by kernel_rfl) ?hQ4_5 ?hy4_5 (by assumption) ?rest4_5; (case hi4_5 => ((simp only [List.getElem?_toArray, List.getElem?_cons_succ, List.getElem?_cons_zero]); rfl)); (case hQ4_5 => exact (fun _ _ _ h => h)); (case hy4_5 => exact Or.inr ⟨by rfl, rfl⟩); (try simp only [Act.put, List.setIfInBounds_toArray, List.set_cons_zero, List.set_cons_succ]))
                      (refine wpAnyH_take (i := 5) (oi := ?oi5_6) (v := undef) ?hi5_6 (by kernel_rfl) (by kernel_rfl) (by kernel_rfl) ?hQ5_6 ?hy5_6 (by assumption) ?rest5_6; (case hi5_6 => ((simp only [List.getElem?_toArray, List.getElem?_cons_succ, List.getElem?_cons_zero]); rfl)); (case hQ5_6 => exact (fun _ _ _ h => h)); (case hy5_6 => exact Or.inr ⟨by rfl, rfl⟩); (try simp only [Act.put, List.setIfInBounds_toArray, List.set_cons_zero, List.set_cons_succ]))
                      (refine wpAnyH_take (i := 6) (oi := ?oi6_7) (v := undef) ?hi6_7 (by kernel_rfl) (by kernel_rfl) (by kernel_rfl) ?hQ6_7 ?hy6_7 (by assumption) ?rest6_7; (case hi6_7 => ((simp only [List.getElem?_toArray, List.getElem?_cons_succ, List.getElem?_cons_zero]); rfl)); (case hQ6_7 => exact (fun _ _ _ h => h)); (case hy6_7 => exact Or.inr ⟨by rfl, rfl⟩); (try simp only [Act.put, List.setIfInBounds_toArray, List.set_cons_zero, List.set_cons_succ]))
                      (refine wpAnyH_take (i := 7) (oi := ?oi7_8) (v := undef) ?hi7_8 (by kernel_rfl) (by kernel_rfl) (by kernel_rfl) ?hQ7_8 ?hy7_8 (by assumption) ?rest7_8; (case hi7_8 => ((simp only [List.getElem?_toArray, List.getElem?_cons_succ, List.getElem?_cons_zero]); rfl)); (case hQ7_8 => exact (fun _ _ _ h => h)); (case hy7_8 => exact Or.inr ⟨by rfl, rfl⟩); (try simp only [Act.put, List.setIfInBounds_toArray, List.set_cons_zero, List.set_cons_succ]))
                      (refine wpAnyH_take (i := 8) (oi := ?oi8_9) (v := undef) ?hi8_9 (by kernel_rfl) (by kernel_rfl) (by kernel_rfl) ?hQ8_9 ?hy8_9 (by assumption) ?rest8_9; (case hi8_9 => ((simp only [List.getElem?_toArray, List.getElem?_cons_succ, List.getElem?_cons_zero]); rfl)); (case hQ8_9 => exact (fun _ _ _ h => h)); (case hy8_9 => exact Or.inr ⟨by rfl, rfl⟩); (try simp only [Act.put, List.setIfInBounds_toArray, List.set_cons_zero, List.set_cons_succ]))
                      (refine wpAnyH_take (i := 9) (oi := ?oi9_10) (v := undef) ?hi9_10 (by kernel_rfl) (by kernel_rfl) (by kernel_rfl) ?hQ9_10 ?hy9_10 (by assumption) ?rest9_10; (case hi9_10 => ((simp only [List.getElem?_toArray, List.getElem?_cons_succ, List.getElem?_cons_zero]); rfl)); (case hQ9_10 => exact (fun _ _ _ h => h)); (case hy9_10 => exact Or.inr ⟨by rfl, rfl⟩); (try simp only [Act.put, List.setIfInBounds_toArray, List.set_cons_zero, List.set_cons_succ]))
                      (refine wpAnyH_take (i := 10) (oi := ?oi10_11) (v := undef) ?hi10_11 (by kernel_rfl) (by kernel_rfl) (by kernel_rfl) ?hQ10_11 ?hy10_11 (by assumption) ?rest10_11; (case hi10_11 => ((simp only [List.getElem?_toArray, List.getElem?_cons_succ, List.getElem?_cons_zero]); rfl)); (case hQ10_11 => exact (fun _ _ _ h => h)); (case hy10_11 => exact Or.inr ⟨by rfl, rfl⟩); (try simp only [Act.put, List.setIfInBounds_toArray, List.set_cons_zero, List.set_cons_succ]))
                      (refine wpAnyH_take (i := 11) (oi := ?oi11_12) (v := undef) ?hi11_12 (by kernel_rfl) (by kernel_rfl) (by kernel_rfl) ?hQ11_12 ?hy11_12 (by assumption) ?rest11_12; (case hi11_12 => ((simp only [List.getElem?_toArray, List.getElem?_cons_succ, List.getElem?_cons_zero]); rfl)); (case hQ11_12 => exact (fun _ _ _ h => h)); (case hy11_12 => exact Or.inr ⟨by rfl, rfl⟩); (try simp only [Act.put, List.setIfInBounds_toArray, List.set_cons_zero, List.set_cons_succ]))
                      (refine wpAnyH_take (i := 12) (oi := ?oi12_13) (v := undef) ?hi12_13 (by kernel_rfl) (by kernel_rfl) (by kernel_rfl) ?hQ12_13 ?hy12_13 (by assumption) ?rest12_13; (case hi12_13 => ((simp only [List.getElem?_toArray, List.getElem?_cons_succ, List.getElem?_cons_zero]); rfl)); (case hQ12_13 => exact (fun _ _ _ h => h)); (case hy12_13 => exact Or.inr ⟨by rfl, rfl⟩); (try simp only [Act.put, List.setIfInBounds_toArray, List.set_cons_zero, List.set_cons_succ]))
                      (refine wpAnyH_take (i := 13) (oi := ?oi13_14) (v := ?vv13_14) ?hi13_14 (by kernel_rfl) (by kernel_rfl) (by kernel_rfl) ?hQ13_14 ?hy13_14 (by assumption) ?rest13_14; (case hi13_14 => ((simp only [List.getElem?_toArray, List.getElem?_cons_succ, List.getElem?_cons_zero]); rfl)); (case hQ13_14 => exact (fun _ _ _ h => h)); (case hy13_14 => (refine Or.inl ⟨by rfl, ?_⟩; intro w hSw; (try dsimp only at hSw); go_simp; try (with_reducible rfl))); (try simp only [Act.put, List.setIfInBounds_toArray, List.set_cons_zero, List.set_cons_succ]))
                      (refine wpAnyH_take (i := 14) (oi := ?oi14_15) (v := ?vv14_15) ?hi14_15 (by kernel_rfl) (by kernel_rfl) (by kernel_rfl) ?hQ14_15 ?hy14_15 (by assumption) ?rest14_15; (case hi14_15 => ((simp only [List.getElem?_toArray, List.getElem?_cons_succ, List.getElem?_cons_zero]); rfl)); (case hQ14_15 => exact (fun _ _ _ h => h)); (case hy14_15 => (refine Or.inl ⟨by rfl, ?_⟩; intro w hSw; (try dsimp only at hSw); go_simp; try (with_reducible rfl))); (try simp only [Act.put, List.setIfInBounds_toArray, List.set_cons_zero, List.set_cons_succ]))
                      refine wpAnyH_done (by kernel_rfl) ?_ _
                      clear hHeld
                      go_wp2_with fail
                      go_ret
                      rw [hR2.out]
                      exact ⟨rfl, HB3.out⟩
                    · rw [hri] at hRi
                      have HRi := hRi
                      have hkq : (k == kk) = decide (k = kk) := by by_cases h : k = kk <;> simp [h]
                      have hR2 : Hid (R = decide (k = kk)) := by
                        show _ = _
                        rw [hR, if_neg (show ¬ (op < 1 ∨ 8 < op) by omega), if_neg (show ¬ (((op = 2 ∨ op = 3) ∧ (kids < 1 ∨ 40 < kids)) ∨ (¬ (op = 2 ∨ op = 3) ∧ kids ≠ 0)) by omega), if_neg (show ¬ ((5 ≤ op ∧ (col < 0 ∨ (kn : Int) ≤ col)) ∨ (op < 5 ∧ col ≠ 0)) by omega), if_pos h56, hri, Bool.true_and]
                      clear hR hk hm hri hRi h56 hCh
                      go_enter Tryd.func24, Tryd.ntmps24
                      go_wp2_with fail
                      refine (hCo2.out _).mono ?_
                      rintro e w1 ⟨rfl, rfl⟩
                      go_wp2_with fail
                      refine (hCo2.out _).mono ?_
                      rintro e w1 ⟨rfl, rfl⟩
                      go_wp2_with fail
                      refine wp_region_held_drew (S := fun w' => w'.cell? ⟨w.heap.size, 1, none⟩ = some (.int .i64 col) ∧ w'.cell? ⟨w.heap.size, 3, none⟩ = some (.int .u8 k) ∧ w'.cell? ⟨w.heap.size, 4, none⟩ = some (.int .i64 nn) ∧ w'.cell? ⟨w.heap.size, 5, none⟩ = some (.string (St8 s)) ∧ w'.cell? ⟨kb, ko + col.toNat, none⟩ = some (.int .u8 kk)) (by kernel_rfl) hcd (fun hHeld => ?_)
                      (refine wpAnyH_take (i := 0) (oi := ?oi0_16) (v := ?vv0_16) ?hi0_16 (by kernel_rfl) (by kernel_rfl) (by kernel_rfl) ?hQ0_16 ?hy0_16 (by assumption) ?rest0_16; (case hi0_16 => ((simp only [List.getElem?_toArray, List.getElem?_cons_zero]); rfl)); (case hQ0_16 => exact (fun _ _ _ h => h)); (case hy0_16 => (refine Or.inl ⟨by rfl, ?_⟩; intro w hSw; (try dsimp only at hSw); go_simp; try (with_reducible rfl))); (try simp only [Act.put, List.setIfInBounds_toArray, List.set_cons_zero, List.set_cons_succ]))
                      (refine wpAnyH_take (i := 1) (oi := ?oi1_17) (v := ?vv1_17) ?hi1_17 (by kernel_rfl) (by kernel_rfl) (by kernel_rfl) ?hQ1_17 ?hy1_17 (by assumption) ?rest1_17; (case hi1_17 => ((simp only [List.getElem?_toArray, List.getElem?_cons_succ, List.getElem?_cons_zero]); rfl)); (case hQ1_17 => exact (fun _ _ _ h => h)); (case hy1_17 => (refine Or.inl ⟨by rfl, ?_⟩; intro w hSw; (try dsimp only at hSw); go_simp; try (with_reducible rfl))); (try simp only [Act.put, List.setIfInBounds_toArray, List.set_cons_zero, List.set_cons_succ]))
                      (refine wpAnyH_ready (rs := [2]) (by kernel_rfl) (by simp) ?_; refine AllReadyH.cons (o := ?oc2_18) ?ho2_18 (fun K hK => ?_) AllReadyH.nil; (case ho2_18 => ((simp only [List.getElem?_toArray, List.getElem?_cons_succ, List.getElem?_cons_zero]); rfl)); go_simp)
                      go_at_call 51
                      refine (HRi.out _).mono ?_
                      rintro e w3 ⟨rfl, hb3⟩
                      have hb3 := Hwd.out.trans (hb3.mono Hwd.out.size)
                      have hc3 := (Hcc.out w3 hb3).1
                      have HB3 := (Hcc.out w3 hb3).2
                      clear hHeld hb3
                      go_wp2_with fail
                      refine hK.out _ _ hc3 (fun hHeld => ?_)
                      clear hK
                      (try simp only [Act.put, List.setIfInBounds_toArray, List.set_cons_zero, List.set_cons_succ])
                      (refine wpAnyH_take (i := 3) (oi := ?oi3_19) (v := ?vv3_19) ?hi3_19 (by kernel_rfl) (by kernel_rfl) (by kernel_rfl) ?hQ3_19 ?hy3_19 (by assumption) ?rest3_19; (case hi3_19 => ((simp only [List.getElem?_toArray, List.getElem?_cons_succ, List.getElem?_cons_zero]); rfl)); (case hQ3_19 => exact (fun _ _ _ h => h)); (case hy3_19 => (refine Or.inl ⟨by rfl, ?_⟩; intro w hSw; (try dsimp only at hSw); go_simp; try (with_reducible rfl))); (try simp only [Act.put, List.setIfInBounds_toArray, List.set_cons_zero, List.set_cons_succ]))
                      (refine wpAnyH_take (i := 4) (oi := ?oi4_20) (v := ?vv4_20) ?hi4_20 (by kernel_rfl) (by kernel_rfl) (by kernel_rfl) ?hQ4_20 ?hy4_20 (by assumption) ?rest4_20; (case hi4_20 => ((simp only [List.getElem?_toArray, List.getElem?_cons_succ, List.getElem?_cons_zero]); rfl)); (case hQ4_20 => exact (fun _ _ _ h => h)); (case hy4_20 => (refine Or.inl ⟨by rfl, ?_⟩; intro w hSw; (try dsimp only at hSw); go_simp; try (with_reducible rfl))); (try simp only [Act.put, List.setIfInBounds_toArray, List.set_cons_zero, List.set_cons_succ]))
                      (refine wpAnyH_take (i := 5) (oi := ?oi5_21) (v := ?vv5_21) ?hi5_21 (by kernel_rfl) (by kernel_rfl) (by kernel_rfl) ?hQ5_21 ?hy5_21 (by assumption) ?rest5_21; (case hi5_21 => ((simp only [List.getElem?_toArray, List.getElem?_cons_succ, List.getElem?_cons_zero]); rfl)); (case hQ5_21 => exact (fun _ _ _ h => h)); (case hy5_21 => (refine Or.inl ⟨by rfl, ?_⟩; intro w hSw; (try dsimp only at hSw); go_simp; try (with_reducible rfl))); (try simp only [Act.put, List.setIfInBounds_toArray, List.set_cons_zero, List.set_cons_succ]))
                      (refine wpAnyH_take (i := 6) (oi := ?oi6_22) (v := ?vv6_22) ?hi6_22 (by kernel_rfl) (by kernel_rfl) (by kernel_rfl) ?hQ6_22 ?hy6_22 (by assumption) ?rest6_22; (case hi6_22 => ((simp only [List.getElem?_toArray, List.getElem?_cons_succ, List.getElem?_cons_zero]); rfl)); (case hQ6_22 => exact (fun _ _ _ h => h)); (case hy6_22 => (refine Or.inl ⟨by rfl, ?_⟩; intro w hSw; (try dsimp only at hSw); go_simp; try (with_reducible rfl))); (try simp only [Act.put, List.setIfInBounds_toArray, List.set_cons_zero, List.set_cons_succ]))
                      (refine wpAnyH_take (i := 7) (oi := ?oi7_23) (v := ?vv7_23) ?hi7_23 (by kernel_rfl) (by kernel_rfl) (by kernel_rfl) ?hQ7_23 ?hy7_23 (by assumption) ?rest7_23; (case hi7_23 => ((simp only [List.getElem?_toArray, List.getElem?_cons_succ, List.getElem?_cons_zero]); rfl)); (case hQ7_23 => exact (fun _ _ _ h => h)); (case hy7_23 => (refine Or.inl ⟨by rfl, ?_⟩; intro w hSw; (try dsimp only at hSw); go_simp; try (with_reducible rfl))); (try simp only [Act.put, List.setIfInBounds_toArray, List.set_cons_zero, List.set_cons_succ]))
                      (refine wpAnyH_take (i := 8) (oi := ?oi8_24) (v := ?vv8_24) ?hi8_24 (by kernel_rfl) (by kernel_rfl) (by kernel_rfl) ?hQ8_24 ?hy8_24 (by assumption) ?rest8_24; (case hi8_24 => ((simp only [List.getElem?_toArray, List.getElem?_cons_succ, List.getElem?_cons_zero]); rfl)); (case hQ8_24 => exact (fun _ _ _ h => h)); (case hy8_24 => (refine Or.inl ⟨by rfl, ?_⟩; intro w hSw; (try dsimp only at hSw); go_simp; try (with_reducible rfl))); (try simp only [Act.put, List.setIfInBounds_toArray, List.set_cons_zero, List.set_cons_succ]))
                      (refine wpAnyH_take (i := 9) (oi := ?oi9_25) (v := ?vv9_25) ?hi9_25 (by kernel_rfl) (by kernel_rfl) (by kernel_rfl) ?hQ9_25 ?hy9_25 (by assumption) ?rest9_25; (case hi9_25 => ((simp only [List.getElem?_toArray, List.getElem?_cons_succ, List.getElem?_cons_zero]); rfl)); (case hQ9_25 => exact (fun _ _ _ h => h)); (case hy9_25 => (refine Or.inl ⟨by rfl, ?_⟩; intro w hSw; (try dsimp only at hSw); go_simp; try (with_reducible rfl))); (try simp only [Act.put, List.setIfInBounds_toArray, List.set_cons_zero, List.set_cons_succ]))
                      (refine wpAnyH_take (i := 10) (oi := ?oi10_26) (v := ?vv10_26) ?hi10_26 (by kernel_rfl) (by kernel_rfl) (by kernel_rfl) ?hQ10_26 ?hy10_26 (by assumption) ?rest10_26; (case hi10_26 => ((simp only [List.getElem?_toArray, List.getElem?_cons_succ, List.getElem?_cons_zero]); rfl)); (case hQ10_26 => exact (fun _ _ _ h => h)); (case hy10_26 => (refine Or.inl ⟨by rfl, ?_⟩; intro w hSw; (try dsimp only at hSw); go_simp; try (with_reducible rfl))); (try simp only [Act.put, List.setIfInBounds_toArray, List.set_cons_zero, List.set_cons_succ]))
                      (refine wpAnyH_take (i := 11) (oi := ?oi11_27) (v := ?vv11_27) ?hi11_27 (by kernel_rfl) (by kernel_rfl) (by kernel_rfl) ?hQ11_27 ?hy11_27 (by assumption) ?rest11_27; (case hi11_27 => ((simp only [List.getElem?_toArray, List.getElem?_cons_succ, List.getElem?_cons_zero]); rfl)); (case hQ11_27 => exact (fun _ _ _ h => h)); (case hy11_27 => (refine Or.inl ⟨by rfl, ?_⟩; intro w hSw; (try dsimp only at hSw); go_simp; try (with_reducible rfl))); (try simp only [Act.put, List.setIfInBounds_toArray, List.set_cons_zero, List.set_cons_succ]))
                      (refine wpAnyH_take (i := 12) (oi := ?oi12_28) (v := ?vv12_28) ?hi12_28 (by kernel_rfl) (by kernel_rfl) (by kernel_rfl) ?hQ12_28 ?hy12_28 (by assumption) ?rest12_28; (case hi12_28 => ((simp only [List.getElem?_toArray, List.getElem?_cons_succ, List.getElem?_cons_zero]); rfl)); (case hQ12_28 => exact (fun _ _ _ h => h)); (case hy12_28 => (refine Or.inl ⟨by rfl, ?_⟩; intro w hSw; (try dsimp only at hSw); go_simp; try (with_reducible rfl))); (try simp only [Act.put, List.setIfInBounds_toArray, List.set_cons_zero, List.set_cons_succ]))
                      (refine wpAnyH_take (i := 13) (oi := ?oi13_29) (v := ?vv13_29) ?hi13_29 (by kernel_rfl) (by kernel_rfl) (by kernel_rfl) ?hQ13_29 ?hy13_29 (by assumption) ?rest13_29; (case hi13_29 => ((simp only [List.getElem?_toArray, List.getElem?_cons_succ, List.getElem?_cons_zero]); rfl)); (case hQ13_29 => exact (fun _ _ _ h => h)); (case hy13_29 => (refine Or.inl ⟨by rfl, ?_⟩; intro w hSw; (try dsimp only at hSw); go_simp; try (with_reducible rfl))); (try simp only [Act.put, List.setIfInBounds_toArray, List.set_cons_zero, List.set_cons_succ]))
                      (refine wpAnyH_take (i := 14) (oi := ?oi14_30) (v := ?vv14_30) ?hi14_30 (by kernel_rfl) (by kernel_rfl) (by kernel_rfl) ?hQ14_30 ?hy14_30 (by assumption) ?rest14_30; (case hi14_30 => ((simp only [List.getElem?_toArray, List.getElem?_cons_succ, List.getElem?_cons_zero]); rfl)); (case hQ14_30 => exact (fun _ _ _ h => h)); (case hy14_30 => (refine Or.inl ⟨by rfl, ?_⟩; intro w hSw; (try dsimp only at hSw); go_simp; try (with_reducible rfl))); (try simp only [Act.put, List.setIfInBounds_toArray, List.set_cons_zero, List.set_cons_succ]))
                      refine wpAnyH_done (by kernel_rfl) ?_ _
                      clear hHeld
                      go_wp2_with fail
                      go_ret
                      rw [hR2.out]
                      exact ⟨rfl, HB3.out⟩
                  · cases hri : rightV ⟨k, nn, s⟩
                    · have hR2 : Hid (R = false) := by
                        show _ = _
                        rw [hR, if_neg (show ¬ (op < 1 ∨ 8 < op) by omega), if_neg (show ¬ (((op = 2 ∨ op = 3) ∧ (kids < 1 ∨ 40 < kids)) ∨ (¬ (op = 2 ∨ op = 3) ∧ kids ≠ 0)) by omega), if_neg (show ¬ ((5 ≤ op ∧ (col < 0 ∨ (kn : Int) ≤ col)) ∨ (op < 5 ∧ col ≠ 0)) by omega), if_pos h56, hri, Bool.false_and]
                      rw [hri] at hRi
                      have HRi := hRi
                      clear hR hk hm hri hRi h56 hCh
                      go_enter Tryd.func24, Tryd.ntmps24
                      go_wp2_with fail
                      refine (hCo2.out _).mono ?_
                      rintro e w1 ⟨rfl, rfl⟩
                      go_wp2_with fail
                      refine (hCo2.out _).mono ?_
                      rintro e w1 ⟨rfl, rfl⟩
                      go_wp2_with fail
                      refine wp_region_held_drew (S := fun w' => w'.cell? ⟨w.heap.size, 1, none⟩ = some (.int .i64 col) ∧ w'.cell? ⟨w.heap.size, 3, none⟩ = some (.int .u8 k) ∧ w'.cell? ⟨w.heap.size, 4, none⟩ = some (.int .i64 nn) ∧ w'.cell? ⟨w.heap.size, 5, none⟩ = some (.string (St8 s)) ∧ w'.cell? ⟨kb, ko + col.toNat, none⟩ = some (.int .u8 kk)) (by kernel_rfl) hcd (fun hHeld => ?_)
                      (refine wpAnyH_take (i := 0) (oi := ?oi0_31) (v := ?vv0_31) ?hi0_31 (by kernel_rfl) (by kernel_rfl) (by kernel_rfl) ?hQ0_31 ?hy0_31 (by assumption) ?rest0_31; (case hi0_31 => ((simp only [List.getElem?_toArray, List.getElem?_cons_zero]); rfl)); (case hQ0_31 => exact (fun _ _ _ h => h)); (case hy0_31 => (refine Or.inl ⟨by rfl, ?_⟩; intro w hSw; (try dsimp only at hSw); go_simp; try (with_reducible rfl))); (try simp only [Act.put, List.setIfInBounds_toArray, List.set_cons_zero, List.set_cons_succ]))
                      (refine wpAnyH_take (i := 1) (oi := ?oi1_32) (v := ?vv1_32) ?hi1_32 (by kernel_rfl) (by kernel_rfl) (by kernel_rfl) ?hQ1_32 ?hy1_32 (by assumption) ?rest1_32; (case hi1_32 => ((simp only [List.getElem?_toArray, List.getElem?_cons_succ, List.getElem?_cons_zero]); rfl)); (case hQ1_32 => exact (fun _ _ _ h => h)); (case hy1_32 => (refine Or.inl ⟨by rfl, ?_⟩; intro w hSw; (try dsimp only at hSw); go_simp; try (with_reducible rfl))); (try simp only [Act.put, List.setIfInBounds_toArray, List.set_cons_zero, List.set_cons_succ]))
                      (refine wpAnyH_ready (rs := [2]) (by kernel_rfl) (by simp) ?_; refine AllReadyH.cons (o := ?oc2_33) ?ho2_33 (fun K hK => ?_) AllReadyH.nil; (case ho2_33 => ((simp only [List.getElem?_toArray, List.getElem?_cons_succ, List.getElem?_cons_zero]); rfl)); go_simp)
                      go_at_call 51
                      refine (HRi.out _).mono ?_
                      rintro e w3 ⟨rfl, hb3⟩
                      have hb3 := Hwd.out.trans (hb3.mono Hwd.out.size)
                      have hc3 := (Hcc.out w3 hb3).1
                      have HB3 := (Hcc.out w3 hb3).2
                      clear hHeld hb3
                      go_wp2_with fail
                      refine hK.out _ _ hc3 (fun hHeld => ?_)
                      clear hK
                      (try simp only [Act.put, List.setIfInBounds_toArray, List.set_cons_zero, List.set_cons_succ])
                      (refine wpAnyH_take (i := 3) (oi := ?oi3_34) (v := ?vv3_34) ?hi3_34 (by kernel_rfl) (by kernel_rfl) (by kernel_rfl) ?hQ3_34 ?hy3_34 (by assumption) ?rest3_34; (case hi3_34 => ((simp only [List.getElem?_toArray, List.getElem?_cons_succ, List.getElem?_cons_zero]); rfl)); (case hQ3_34 => exact (fun _ _ _ h => h)); (case hy3_34 => (refine Or.inl ⟨by rfl, ?_⟩; intro w hSw; (try dsimp only at hSw); go_simp; try (with_reducible rfl))); (try simp only [Act.put, List.setIfInBounds_toArray, List.set_cons_zero, List.set_cons_succ]))
                      (refine wpAnyH_take (i := 4) (oi := ?oi4_35) (v := undef) ?hi4_35 (by kernel_rfl) (by kernel_rfl) (by kernel_rfl) ?hQ4_35 ?hy4_35 (by assumption) ?rest4_35; (case hi4_35 => ((simp only [List.getElem?_toArray, List.getElem?_cons_succ, List.getElem?_cons_zero]); rfl)); (case hQ4_35 => exact (fun _ _ _ h => h)); (case hy4_35 => exact Or.inr ⟨by rfl, rfl⟩); (try simp only [Act.put, List.setIfInBounds_toArray, List.set_cons_zero, List.set_cons_succ]))
                      (refine wpAnyH_take (i := 5) (oi := ?oi5_36) (v := undef) ?hi5_36 (by kernel_rfl) (by kernel_rfl) (by kernel_rfl) ?hQ5_36 ?hy5_36 (by assumption) ?rest5_36; (case hi5_36 => ((simp only [List.getElem?_toArray, List.getElem?_cons_succ, List.getElem?_cons_zero]); rfl)); (case hQ5_36 => exact (fun _ _ _ h => h)); (case hy5_36 => exact Or.inr ⟨by rfl, rfl⟩); (try simp only [Act.put, List.setIfInBounds_toArray, List.set_cons_zero, List.set_cons_succ]))
                      (refine wpAnyH_take (i := 6) (oi := ?oi6_37) (v := undef) ?hi6_37 (by kernel_rfl) (by kernel_rfl) (by kernel_rfl) ?hQ6_37 ?hy6_37 (by assumption) ?rest6_37; (case hi6_37 => ((simp only [List.getElem?_toArray, List.getElem?_cons_succ, List.getElem?_cons_zero]); rfl)); (case hQ6_37 => exact (fun _ _ _ h => h)); (case hy6_37 => exact Or.inr ⟨by rfl, rfl⟩); (try simp only [Act.put, List.setIfInBounds_toArray, List.set_cons_zero, List.set_cons_succ]))
                      (refine wpAnyH_take (i := 7) (oi := ?oi7_38) (v := undef) ?hi7_38 (by kernel_rfl) (by kernel_rfl) (by kernel_rfl) ?hQ7_38 ?hy7_38 (by assumption) ?rest7_38; (case hi7_38 => ((simp only [List.getElem?_toArray, List.getElem?_cons_succ, List.getElem?_cons_zero]); rfl)); (case hQ7_38 => exact (fun _ _ _ h => h)); (case hy7_38 => exact Or.inr ⟨by rfl, rfl⟩); (try simp only [Act.put, List.setIfInBounds_toArray, List.set_cons_zero, List.set_cons_succ]))
                      (refine wpAnyH_take (i := 8) (oi := ?oi8_39) (v := undef) ?hi8_39 (by kernel_rfl) (by kernel_rfl) (by kernel_rfl) ?hQ8_39 ?hy8_39 (by assumption) ?rest8_39; (case hi8_39 => ((simp only [List.getElem?_toArray, List.getElem?_cons_succ, List.getElem?_cons_zero]); rfl)); (case hQ8_39 => exact (fun _ _ _ h => h)); (case hy8_39 => exact Or.inr ⟨by rfl, rfl⟩); (try simp only [Act.put, List.setIfInBounds_toArray, List.set_cons_zero, List.set_cons_succ]))
                      (refine wpAnyH_take (i := 9) (oi := ?oi9_40) (v := undef) ?hi9_40 (by kernel_rfl) (by kernel_rfl) (by kernel_rfl) ?hQ9_40 ?hy9_40 (by assumption) ?rest9_40; (case hi9_40 => ((simp only [List.getElem?_toArray, List.getElem?_cons_succ, List.getElem?_cons_zero]); rfl)); (case hQ9_40 => exact (fun _ _ _ h => h)); (case hy9_40 => exact Or.inr ⟨by rfl, rfl⟩); (try simp only [Act.put, List.setIfInBounds_toArray, List.set_cons_zero, List.set_cons_succ]))
                      (refine wpAnyH_take (i := 10) (oi := ?oi10_41) (v := undef) ?hi10_41 (by kernel_rfl) (by kernel_rfl) (by kernel_rfl) ?hQ10_41 ?hy10_41 (by assumption) ?rest10_41; (case hi10_41 => ((simp only [List.getElem?_toArray, List.getElem?_cons_succ, List.getElem?_cons_zero]); rfl)); (case hQ10_41 => exact (fun _ _ _ h => h)); (case hy10_41 => exact Or.inr ⟨by rfl, rfl⟩); (try simp only [Act.put, List.setIfInBounds_toArray, List.set_cons_zero, List.set_cons_succ]))
                      (refine wpAnyH_take (i := 11) (oi := ?oi11_42) (v := undef) ?hi11_42 (by kernel_rfl) (by kernel_rfl) (by kernel_rfl) ?hQ11_42 ?hy11_42 (by assumption) ?rest11_42; (case hi11_42 => ((simp only [List.getElem?_toArray, List.getElem?_cons_succ, List.getElem?_cons_zero]); rfl)); (case hQ11_42 => exact (fun _ _ _ h => h)); (case hy11_42 => exact Or.inr ⟨by rfl, rfl⟩); (try simp only [Act.put, List.setIfInBounds_toArray, List.set_cons_zero, List.set_cons_succ]))
                      (refine wpAnyH_take (i := 12) (oi := ?oi12_43) (v := undef) ?hi12_43 (by kernel_rfl) (by kernel_rfl) (by kernel_rfl) ?hQ12_43 ?hy12_43 (by assumption) ?rest12_43; (case hi12_43 => ((simp only [List.getElem?_toArray, List.getElem?_cons_succ, List.getElem?_cons_zero]); rfl)); (case hQ12_43 => exact (fun _ _ _ h => h)); (case hy12_43 => exact Or.inr ⟨by rfl, rfl⟩); (try simp only [Act.put, List.setIfInBounds_toArray, List.set_cons_zero, List.set_cons_succ]))
                      (refine wpAnyH_take (i := 13) (oi := ?oi13_44) (v := ?vv13_44) ?hi13_44 (by kernel_rfl) (by kernel_rfl) (by kernel_rfl) ?hQ13_44 ?hy13_44 (by assumption) ?rest13_44; (case hi13_44 => ((simp only [List.getElem?_toArray, List.getElem?_cons_succ, List.getElem?_cons_zero]); rfl)); (case hQ13_44 => exact (fun _ _ _ h => h)); (case hy13_44 => (refine Or.inl ⟨by rfl, ?_⟩; intro w hSw; (try dsimp only at hSw); go_simp; try (with_reducible rfl))); (try simp only [Act.put, List.setIfInBounds_toArray, List.set_cons_zero, List.set_cons_succ]))
                      (refine wpAnyH_take (i := 14) (oi := ?oi14_45) (v := ?vv14_45) ?hi14_45 (by kernel_rfl) (by kernel_rfl) (by kernel_rfl) ?hQ14_45 ?hy14_45 (by assumption) ?rest14_45; (case hi14_45 => ((simp only [List.getElem?_toArray, List.getElem?_cons_succ, List.getElem?_cons_zero]); rfl)); (case hQ14_45 => exact (fun _ _ _ h => h)); (case hy14_45 => (refine Or.inl ⟨by rfl, ?_⟩; intro w hSw; (try dsimp only at hSw); go_simp; try (with_reducible rfl))); (try simp only [Act.put, List.setIfInBounds_toArray, List.set_cons_zero, List.set_cons_succ]))
                      refine wpAnyH_done (by kernel_rfl) ?_ _
                      clear hHeld
                      go_wp2_with fail
                      go_ret
                      rw [hR2.out]
                      exact ⟨rfl, HB3.out⟩
                    · rw [hri] at hRi
                      have HRi := hRi
                      have hkq : (k == kk) = decide (k = kk) := by by_cases h : k = kk <;> simp [h]
                      have hR2 : Hid (R = decide (k = kk)) := by
                        show _ = _
                        rw [hR, if_neg (show ¬ (op < 1 ∨ 8 < op) by omega), if_neg (show ¬ (((op = 2 ∨ op = 3) ∧ (kids < 1 ∨ 40 < kids)) ∨ (¬ (op = 2 ∨ op = 3) ∧ kids ≠ 0)) by omega), if_neg (show ¬ ((5 ≤ op ∧ (col < 0 ∨ (kn : Int) ≤ col)) ∨ (op < 5 ∧ col ≠ 0)) by omega), if_pos h56, hri, Bool.true_and]
                      clear hR hk hm hri hRi h56 hCh
                      go_enter Tryd.func24, Tryd.ntmps24
                      go_wp2_with fail
                      refine (hCo2.out _).mono ?_
                      rintro e w1 ⟨rfl, rfl⟩
                      go_wp2_with fail
                      refine (hCo2.out _).mono ?_
                      rintro e w1 ⟨rfl, rfl⟩
                      go_wp2_with fail
                      refine wp_region_held_drew (S := fun w' => w'.cell? ⟨w.heap.size, 1, none⟩ = some (.int .i64 col) ∧ w'.cell? ⟨w.heap.size, 3, none⟩ = some (.int .u8 k) ∧ w'.cell? ⟨w.heap.size, 4, none⟩ = some (.int .i64 nn) ∧ w'.cell? ⟨w.heap.size, 5, none⟩ = some (.string (St8 s)) ∧ w'.cell? ⟨kb, ko + col.toNat, none⟩ = some (.int .u8 kk)) (by kernel_rfl) hcd (fun hHeld => ?_)
                      (refine wpAnyH_take (i := 0) (oi := ?oi0_46) (v := ?vv0_46) ?hi0_46 (by kernel_rfl) (by kernel_rfl) (by kernel_rfl) ?hQ0_46 ?hy0_46 (by assumption) ?rest0_46; (case hi0_46 => ((simp only [List.getElem?_toArray, List.getElem?_cons_zero]); rfl)); (case hQ0_46 => exact (fun _ _ _ h => h)); (case hy0_46 => (refine Or.inl ⟨by rfl, ?_⟩; intro w hSw; (try dsimp only at hSw); go_simp; try (with_reducible rfl))); (try simp only [Act.put, List.setIfInBounds_toArray, List.set_cons_zero, List.set_cons_succ]))
                      (refine wpAnyH_take (i := 1) (oi := ?oi1_47) (v := ?vv1_47) ?hi1_47 (by kernel_rfl) (by kernel_rfl) (by kernel_rfl) ?hQ1_47 ?hy1_47 (by assumption) ?rest1_47; (case hi1_47 => ((simp only [List.getElem?_toArray, List.getElem?_cons_succ, List.getElem?_cons_zero]); rfl)); (case hQ1_47 => exact (fun _ _ _ h => h)); (case hy1_47 => (refine Or.inl ⟨by rfl, ?_⟩; intro w hSw; (try dsimp only at hSw); go_simp; try (with_reducible rfl))); (try simp only [Act.put, List.setIfInBounds_toArray, List.set_cons_zero, List.set_cons_succ]))
                      (refine wpAnyH_ready (rs := [2]) (by kernel_rfl) (by simp) ?_; refine AllReadyH.cons (o := ?oc2_48) ?ho2_48 (fun K hK => ?_) AllReadyH.nil; (case ho2_48 => ((simp only [List.getElem?_toArray, List.getElem?_cons_succ, List.getElem?_cons_zero]); rfl)); go_simp)
                      go_at_call 51
                      refine (HRi.out _).mono ?_
                      rintro e w3 ⟨rfl, hb3⟩
                      have hb3 := Hwd.out.trans (hb3.mono Hwd.out.size)
                      have hc3 := (Hcc.out w3 hb3).1
                      have HB3 := (Hcc.out w3 hb3).2
                      clear hHeld hb3
                      go_wp2_with fail
                      refine hK.out _ _ hc3 (fun hHeld => ?_)
                      clear hK
                      (try simp only [Act.put, List.setIfInBounds_toArray, List.set_cons_zero, List.set_cons_succ])
                      (refine wpAnyH_take (i := 3) (oi := ?oi3_49) (v := ?vv3_49) ?hi3_49 (by kernel_rfl) (by kernel_rfl) (by kernel_rfl) ?hQ3_49 ?hy3_49 (by assumption) ?rest3_49; (case hi3_49 => ((simp only [List.getElem?_toArray, List.getElem?_cons_succ, List.getElem?_cons_zero]); rfl)); (case hQ3_49 => exact (fun _ _ _ h => h)); (case hy3_49 => (refine Or.inl ⟨by rfl, ?_⟩; intro w hSw; (try dsimp only at hSw); go_simp; try (with_reducible rfl))); (try simp only [Act.put, List.setIfInBounds_toArray, List.set_cons_zero, List.set_cons_succ]))
                      (refine wpAnyH_take (i := 4) (oi := ?oi4_50) (v := ?vv4_50) ?hi4_50 (by kernel_rfl) (by kernel_rfl) (by kernel_rfl) ?hQ4_50 ?hy4_50 (by assumption) ?rest4_50; (case hi4_50 => ((simp only [List.getElem?_toArray, List.getElem?_cons_succ, List.getElem?_cons_zero]); rfl)); (case hQ4_50 => exact (fun _ _ _ h => h)); (case hy4_50 => (refine Or.inl ⟨by rfl, ?_⟩; intro w hSw; (try dsimp only at hSw); go_simp; try (with_reducible rfl))); (try simp only [Act.put, List.setIfInBounds_toArray, List.set_cons_zero, List.set_cons_succ]))
                      (refine wpAnyH_take (i := 5) (oi := ?oi5_51) (v := ?vv5_51) ?hi5_51 (by kernel_rfl) (by kernel_rfl) (by kernel_rfl) ?hQ5_51 ?hy5_51 (by assumption) ?rest5_51; (case hi5_51 => ((simp only [List.getElem?_toArray, List.getElem?_cons_succ, List.getElem?_cons_zero]); rfl)); (case hQ5_51 => exact (fun _ _ _ h => h)); (case hy5_51 => (refine Or.inl ⟨by rfl, ?_⟩; intro w hSw; (try dsimp only at hSw); go_simp; try (with_reducible rfl))); (try simp only [Act.put, List.setIfInBounds_toArray, List.set_cons_zero, List.set_cons_succ]))
                      (refine wpAnyH_take (i := 6) (oi := ?oi6_52) (v := ?vv6_52) ?hi6_52 (by kernel_rfl) (by kernel_rfl) (by kernel_rfl) ?hQ6_52 ?hy6_52 (by assumption) ?rest6_52; (case hi6_52 => ((simp only [List.getElem?_toArray, List.getElem?_cons_succ, List.getElem?_cons_zero]); rfl)); (case hQ6_52 => exact (fun _ _ _ h => h)); (case hy6_52 => (refine Or.inl ⟨by rfl, ?_⟩; intro w hSw; (try dsimp only at hSw); go_simp; try (with_reducible rfl))); (try simp only [Act.put, List.setIfInBounds_toArray, List.set_cons_zero, List.set_cons_succ]))
                      (refine wpAnyH_take (i := 7) (oi := ?oi7_53) (v := ?vv7_53) ?hi7_53 (by kernel_rfl) (by kernel_rfl) (by kernel_rfl) ?hQ7_53 ?hy7_53 (by assumption) ?rest7_53; (case hi7_53 => ((simp only [List.getElem?_toArray, List.getElem?_cons_succ, List.getElem?_cons_zero]); rfl)); (case hQ7_53 => exact (fun _ _ _ h => h)); (case hy7_53 => (refine Or.inl ⟨by rfl, ?_⟩; intro w hSw; (try dsimp only at hSw); go_simp; try (with_reducible rfl))); (try simp only [Act.put, List.setIfInBounds_toArray, List.set_cons_zero, List.set_cons_succ]))
                      (refine wpAnyH_take (i := 8) (oi := ?oi8_54) (v := ?vv8_54) ?hi8_54 (by kernel_rfl) (by kernel_rfl) (by kernel_rfl) ?hQ8_54 ?hy8_54 (by assumption) ?rest8_54; (case hi8_54 => ((simp only [List.getElem?_toArray, List.getElem?_cons_succ, List.getElem?_cons_zero]); rfl)); (case hQ8_54 => exact (fun _ _ _ h => h)); (case hy8_54 => (refine Or.inl ⟨by rfl, ?_⟩; intro w hSw; (try dsimp only at hSw); go_simp; try (with_reducible rfl))); (try simp only [Act.put, List.setIfInBounds_toArray, List.set_cons_zero, List.set_cons_succ]))
                      (refine wpAnyH_take (i := 9) (oi := ?oi9_55) (v := ?vv9_55) ?hi9_55 (by kernel_rfl) (by kernel_rfl) (by kernel_rfl) ?hQ9_55 ?hy9_55 (by assumption) ?rest9_55; (case hi9_55 => ((simp only [List.getElem?_toArray, List.getElem?_cons_succ, List.getElem?_cons_zero]); rfl)); (case hQ9_55 => exact (fun _ _ _ h => h)); (case hy9_55 => (refine Or.inl ⟨by rfl, ?_⟩; intro w hSw; (try dsimp only at hSw); go_simp; try (with_reducible rfl))); (try simp only [Act.put, List.setIfInBounds_toArray, List.set_cons_zero, List.set_cons_succ]))
                      (refine wpAnyH_take (i := 10) (oi := ?oi10_56) (v := ?vv10_56) ?hi10_56 (by kernel_rfl) (by kernel_rfl) (by kernel_rfl) ?hQ10_56 ?hy10_56 (by assumption) ?rest10_56; (case hi10_56 => ((simp only [List.getElem?_toArray, List.getElem?_cons_succ, List.getElem?_cons_zero]); rfl)); (case hQ10_56 => exact (fun _ _ _ h => h)); (case hy10_56 => (refine Or.inl ⟨by rfl, ?_⟩; intro w hSw; (try dsimp only at hSw); go_simp; try (with_reducible rfl))); (try simp only [Act.put, List.setIfInBounds_toArray, List.set_cons_zero, List.set_cons_succ]))
                      (refine wpAnyH_take (i := 11) (oi := ?oi11_57) (v := ?vv11_57) ?hi11_57 (by kernel_rfl) (by kernel_rfl) (by kernel_rfl) ?hQ11_57 ?hy11_57 (by assumption) ?rest11_57; (case hi11_57 => ((simp only [List.getElem?_toArray, List.getElem?_cons_succ, List.getElem?_cons_zero]); rfl)); (case hQ11_57 => exact (fun _ _ _ h => h)); (case hy11_57 => (refine Or.inl ⟨by rfl, ?_⟩; intro w hSw; (try dsimp only at hSw); go_simp; try (with_reducible rfl))); (try simp only [Act.put, List.setIfInBounds_toArray, List.set_cons_zero, List.set_cons_succ]))
                      (refine wpAnyH_take (i := 12) (oi := ?oi12_58) (v := ?vv12_58) ?hi12_58 (by kernel_rfl) (by kernel_rfl) (by kernel_rfl) ?hQ12_58 ?hy12_58 (by assumption) ?rest12_58; (case hi12_58 => ((simp only [List.getElem?_toArray, List.getElem?_cons_succ, List.getElem?_cons_zero]); rfl)); (case hQ12_58 => exact (fun _ _ _ h => h)); (case hy12_58 => (refine Or.inl ⟨by rfl, ?_⟩; intro w hSw; (try dsimp only at hSw); go_simp; try (with_reducible rfl))); (try simp only [Act.put, List.setIfInBounds_toArray, List.set_cons_zero, List.set_cons_succ]))
                      (refine wpAnyH_take (i := 13) (oi := ?oi13_59) (v := ?vv13_59) ?hi13_59 (by kernel_rfl) (by kernel_rfl) (by kernel_rfl) ?hQ13_59 ?hy13_59 (by assumption) ?rest13_59; (case hi13_59 => ((simp only [List.getElem?_toArray, List.getElem?_cons_succ, List.getElem?_cons_zero]); rfl)); (case hQ13_59 => exact (fun _ _ _ h => h)); (case hy13_59 => (refine Or.inl ⟨by rfl, ?_⟩; intro w hSw; (try dsimp only at hSw); go_simp; try (with_reducible rfl))); (try simp only [Act.put, List.setIfInBounds_toArray, List.set_cons_zero, List.set_cons_succ]))
                      (refine wpAnyH_take (i := 14) (oi := ?oi14_60) (v := ?vv14_60) ?hi14_60 (by kernel_rfl) (by kernel_rfl) (by kernel_rfl) ?hQ14_60 ?hy14_60 (by assumption) ?rest14_60; (case hi14_60 => ((simp only [List.getElem?_toArray, List.getElem?_cons_succ, List.getElem?_cons_zero]); rfl)); (case hQ14_60 => exact (fun _ _ _ h => h)); (case hy14_60 => (refine Or.inl ⟨by rfl, ?_⟩; intro w hSw; (try dsimp only at hSw); go_simp; try (with_reducible rfl))); (try simp only [Act.put, List.setIfInBounds_toArray, List.set_cons_zero, List.set_cons_succ]))
                      refine wpAnyH_done (by kernel_rfl) ?_ _
                      clear hHeld
                      go_wp2_with fail
                      go_ret
                      rw [hR2.out]
                      exact ⟨rfl, HB3.out⟩
                · have e5 : (op == 5) = false := by rw [beq_eq_false_iff_ne]; omega
                  have e6 : (op == 6) = false := by rw [beq_eq_false_iff_ne]; omega
                  by_cases h7 : op = 7
                  · have e7 : (op == 7) = true := by rw [h7]; rfl
                    have Hcc : Hid (∀ w', Below ((w.alloc (.cells #[.int .u8 op, .int .i64 col, .int .i64 kids, .int .u8 k, .int .i64 nn, .string (St8 s)] 46)).alloc (.cells #[.int .u8 0, .int .i64 0, .string ⟨#[]⟩] 44)).heap.size ((w.alloc (.cells #[.int .u8 op, .int .i64 col, .int .i64 kids, .int .u8 k, .int .i64 nn, .string (St8 s)] 46)).alloc (.cells #[.int .u8 0, .int .i64 0, .string ⟨#[]⟩] 44)) w' → (w'.cell? ⟨w.heap.size, 1, none⟩ = some (.int .i64 col) ∧ w'.cell? ⟨w.heap.size, 3, none⟩ = some (.int .u8 k) ∧ w'.cell? ⟨w.heap.size, 4, none⟩ = some (.int .i64 nn) ∧ w'.cell? ⟨w.heap.size, 5, none⟩ = some (.string (St8 s)) ∧ w'.cell? ⟨kb, ko + col.toNat, none⟩ = some (.int .u8 kk)) ∧ Hid (Below w.heap.size w w')) := fun w' hb => by
                      obtain ⟨⟨g1, g3, g4, g5⟩, gb⟩ := Hc.out w' hb
                      exact ⟨⟨g1, g3, g4, g5, hkk.out w' gb.out⟩, gb⟩
                    clear Hc hkk
                    cases hri : rightV ⟨k, nn, s⟩
                    · have hR2 : Hid (R = false) := by
                        show _ = _
                        rw [hR, if_neg (show ¬ (op < 1 ∨ 8 < op) by omega), if_neg (show ¬ (((op = 2 ∨ op = 3) ∧ (kids < 1 ∨ 40 < kids)) ∨ (¬ (op = 2 ∨ op = 3) ∧ kids ≠ 0)) by omega), if_neg (show ¬ ((5 ≤ op ∧ (col < 0 ∨ (kn : Int) ≤ col)) ∨ (op < 5 ∧ col ≠ 0)) by omega), if_neg h56, if_pos h7, hri]; rfl
                      rw [hri] at hRi
                      clear hR hk hm hri h56 hCh h7
                      go_enter Tryd.func24, Tryd.ntmps24
                      go_wp2_with fail
                      refine (hCo2.out _).mono ?_
                      rintro e w1 ⟨rfl, rfl⟩
                      go_wp2_with fail
                      refine (hCo2.out _).mono ?_
                      rintro e w1 ⟨rfl, rfl⟩
                      go_wp2_with fail
                      refine (hRi.out _).mono ?_
                      rintro e w3 ⟨rfl, hb3⟩
                      obtain ⟨⟨g1, g3, g4, g5, g6⟩, HB3⟩ := Hcc.out w3 hb3
                      go_wp2_with fail
                      go_ret
                      rw [hR2.out]
                      exact ⟨rfl, HB3.out⟩
                    · rw [hri] at hRi
                      by_cases hk3 : k = 3
                      · have ek3 : (k == 3) = true := by rw [hk3]; rfl
                        by_cases hkk3 : kk = 3
                        · have ekk3 : (kk == 3) = true := by rw [hkk3]; rfl
                          have hR2 : Hid (R = (partsM s).2) := by
                            show _ = _
                            rw [hR, if_neg (show ¬ (op < 1 ∨ 8 < op) by omega), if_neg (show ¬ (((op = 2 ∨ op = 3) ∧ (kids < 1 ∨ 40 < kids)) ∨ (¬ (op = 2 ∨ op = 3) ∧ kids ≠ 0)) by omega), if_neg (show ¬ ((5 ≤ op ∧ (col < 0 ∨ (kn : Int) ≤ col)) ∨ (op < 5 ∧ col ≠ 0)) by omega), if_neg h56, if_pos h7, hri, decide_eq_true hk3, decide_eq_true hkk3]; rfl
                          generalize (partsM s).2 = pb at *
                          clear hR hk hm hri h56 h7 hk3 hkk3
                          cases pb
                          · have hCh2 := Lib.hid (fun w' hb => by have := hCh.out w' hb; rw [if_neg (by decide)] at this; exact this)
                            clear hCh
                            go_enter Tryd.func24, Tryd.ntmps24
                            go_wp2_with fail
                            refine (hCo2.out _).mono ?_
                            rintro e w1 ⟨rfl, rfl⟩
                            go_wp2_with fail
                            refine (hCo2.out _).mono ?_
                            rintro e w1 ⟨rfl, rfl⟩
                            go_wp2_with fail
                            refine (hRi.out _).mono ?_
                            rintro e w3 ⟨rfl, hb3⟩
                            obtain ⟨⟨g1, g3, g4, g5, g6⟩, HB3⟩ := Hcc.out w3 hb3
                            go_wp2_with fail
                            refine (hCh2.out _ HB3.out).mono ?_
                            rintro e w4 ⟨rfl, hb4⟩
                            have HB4 := Lib.hid (HB3.out.trans (hb4.mono HB3.out.size))
                            go_wp2_with fail
                            go_ret
                            rw [hR2.out]
                            exact ⟨rfl, HB4.out⟩
                          · have hCh2 := Lib.hid (fun w' hb => by have := hCh.out w' hb; rw [if_pos rfl] at this; exact this)
                            clear hCh
                            go_enter Tryd.func24, Tryd.ntmps24
                            go_wp2_with fail
                            refine (hCo2.out _).mono ?_
                            rintro e w1 ⟨rfl, rfl⟩
                            go_wp2_with fail
                            refine (hCo2.out _).mono ?_
                            rintro e w1 ⟨rfl, rfl⟩
                            go_wp2_with fail
                            refine (hRi.out _).mono ?_
                            rintro e w3 ⟨rfl, hb3⟩
                            obtain ⟨⟨g1, g3, g4, g5, g6⟩, HB3⟩ := Hcc.out w3 hb3
                            go_wp2_with fail
                            refine (hCh2.out _ HB3.out).mono ?_
                            rintro e w4 ⟨rfl, hb4⟩
                            have HB4 := Lib.hid (HB3.out.trans (hb4.mono HB3.out.size))
                            go_wp2_with fail
                            go_ret
                            rw [hR2.out]
                            exact ⟨rfl, HB4.out⟩
                        · have ekk3 : (kk == 3) = false := by rw [beq_eq_false_iff_ne]; exact hkk3
                          have hR2 : Hid (R = false) := by
                            show _ = _
                            rw [hR, if_neg (show ¬ (op < 1 ∨ 8 < op) by omega), if_neg (show ¬ (((op = 2 ∨ op = 3) ∧ (kids < 1 ∨ 40 < kids)) ∨ (¬ (op = 2 ∨ op = 3) ∧ kids ≠ 0)) by omega), if_neg (show ¬ ((5 ≤ op ∧ (col < 0 ∨ (kn : Int) ≤ col)) ∨ (op < 5 ∧ col ≠ 0)) by omega), if_neg h56, if_pos h7, hri, decide_eq_true hk3, decide_eq_false hkk3]; rfl
                          clear hR hk hm hri h56 hCh h7 hk3 hkk3
                          go_enter Tryd.func24, Tryd.ntmps24
                          go_wp2_with fail
                          refine (hCo2.out _).mono ?_
                          rintro e w1 ⟨rfl, rfl⟩
                          go_wp2_with fail
                          refine (hCo2.out _).mono ?_
                          rintro e w1 ⟨rfl, rfl⟩
                          go_wp2_with fail
                          refine (hRi.out _).mono ?_
                          rintro e w3 ⟨rfl, hb3⟩
                          obtain ⟨⟨g1, g3, g4, g5, g6⟩, HB3⟩ := Hcc.out w3 hb3
                          go_wp2_with fail
                          go_ret
                          rw [hR2.out]
                          exact ⟨rfl, HB3.out⟩
                      · have ek3 : (k == 3) = false := by rw [beq_eq_false_iff_ne]; exact hk3
                        have hR2 : Hid (R = false) := by
                          show _ = _
                          rw [hR, if_neg (show ¬ (op < 1 ∨ 8 < op) by omega), if_neg (show ¬ (((op = 2 ∨ op = 3) ∧ (kids < 1 ∨ 40 < kids)) ∨ (¬ (op = 2 ∨ op = 3) ∧ kids ≠ 0)) by omega), if_neg (show ¬ ((5 ≤ op ∧ (col < 0 ∨ (kn : Int) ≤ col)) ∨ (op < 5 ∧ col ≠ 0)) by omega), if_neg h56, if_pos h7, hri, decide_eq_false hk3]; rfl
                        clear hR hk hm hri h56 hCh h7 hk3
                        go_enter Tryd.func24, Tryd.ntmps24
                        go_wp2_with fail
                        refine (hCo2.out _).mono ?_
                        rintro e w1 ⟨rfl, rfl⟩
                        go_wp2_with fail
                        refine (hCo2.out _).mono ?_
                        rintro e w1 ⟨rfl, rfl⟩
                        go_wp2_with fail
                        refine (hRi.out _).mono ?_
                        rintro e w3 ⟨rfl, hb3⟩
                        obtain ⟨⟨g1, g3, g4, g5, g6⟩, HB3⟩ := Hcc.out w3 hb3
                        go_wp2_with fail
                        go_ret
                        rw [hR2.out]
                        exact ⟨rfl, HB3.out⟩
                  · have e7 : (op == 7) = false := by rw [beq_eq_false_iff_ne]; exact h7
                    have HK : True := trivial
                    by_cases hv : (⟨k, nn, s⟩ : Va) = Va.nil
                    · have hR2 : Hid (R = true) := by
                        show _ = _
                        rw [hR, if_neg (show ¬ (op < 1 ∨ 8 < op) by omega), if_neg (show ¬ (((op = 2 ∨ op = 3) ∧ (kids < 1 ∨ 40 < kids)) ∨ (¬ (op = 2 ∨ op = 3) ∧ kids ≠ 0)) by omega), if_neg (show ¬ ((5 ≤ op ∧ (col < 0 ∨ (kn : Int) ≤ col)) ∨ (op < 5 ∧ col ≠ 0)) by omega), if_neg h56, if_neg h7, decide_eq_true hv]
                      cases hv
                      have hs0 : St8 [] = (⟨#[]⟩ : ByteArray) := rfl
                      clear hR hCh hRi Hc HK hk hm h56 h7
                      go_enter Tryd.func24, Tryd.ntmps24
                      go_wp2_with fail
                      refine (hCo2.out _).mono ?_
                      rintro e w1 ⟨rfl, rfl⟩
                      go_wp2_with fail
                      refine (hCo2.out _).mono ?_
                      rintro e w1 ⟨rfl, rfl⟩
                      go_wp2_with fail
                      go_ret
                      rw [hR2.out]
                      exact ⟨rfl, Hb2.out⟩
                    · have hR2 : Hid (R = false) := by
                        show _ = _
                        rw [hR, if_neg (show ¬ (op < 1 ∨ 8 < op) by omega), if_neg (show ¬ (((op = 2 ∨ op = 3) ∧ (kids < 1 ∨ 40 < kids)) ∨ (¬ (op = 2 ∨ op = 3) ∧ kids ≠ 0)) by omega), if_neg (show ¬ ((5 ≤ op ∧ (col < 0 ∨ (kn : Int) ≤ col)) ∨ (op < 5 ∧ col ≠ 0)) by omega), if_neg h56, if_neg h7, decide_eq_false hv]
                      rcases va_nil_ne hv with h | ⟨rfl, h⟩ | ⟨rfl, rfl, h⟩
                      · have hk0 : (k == 0) = false := by rw [beq_eq_false_iff_ne]; exact h
                        have hk0b : (k != 0) = true := by simpa using h
                        clear hR hv hCh hRi Hc HK hk hm h56 h7
                        go_enter Tryd.func24, Tryd.ntmps24
                        go_wp2_with fail
                        refine (hCo2.out _).mono ?_
                        rintro e w1 ⟨rfl, rfl⟩
                        go_wp2_with fail
                        refine (hCo2.out _).mono ?_
                        rintro e w1 ⟨rfl, rfl⟩
                        go_wp2_with fail
                        go_ret
                        rw [hR2.out]
                        exact ⟨rfl, Hb2.out⟩
                      · have hk0 : (nn == 0) = false := by rw [beq_eq_false_iff_ne]; exact h
                        have hk0b : (nn != 0) = true := by simpa using h
                        clear hR hv hCh hRi Hc HK hk hm h56 h7
                        go_enter Tryd.func24, Tryd.ntmps24
                        go_wp2_with fail
                        refine (hCo2.out _).mono ?_
                        rintro e w1 ⟨rfl, rfl⟩
                        go_wp2_with fail
                        refine (hCo2.out _).mono ?_
                        rintro e w1 ⟨rfl, rfl⟩
                        go_wp2_with fail
                        go_ret
                        rw [hR2.out]
                        exact ⟨rfl, Hb2.out⟩
                      · have hk0 : (St8 s == ⟨#[]⟩) = false := by rw [St8_nil_eq, decide_eq_false h]
                        have hk1 : (St8 s).toList.isEmpty = false := by rw [St8_empty, decide_eq_false h]
                        have hk2 : ¬ St8 s = ⟨#[]⟩ := fun e => h (St8_nil_iff s |>.1 e)
                        clear hR hv hCh hRi Hc HK hk hm h56 h7
                        go_enter Tryd.func24, Tryd.ntmps24
                        go_wp2_with fail
                        refine (hCo2.out _).mono ?_
                        rintro e w1 ⟨rfl, rfl⟩
                        go_wp2_with fail
                        refine (hCo2.out _).mono ?_
                        rintro e w1 ⟨rfl, rfl⟩
                        go_wp2_with fail
                        go_ret
                        rw [hR2.out]
                        exact ⟨rfl, Hb2.out⟩
          · have hCo2 := Lib.hid (fun w' => by have := hCo.out w'; rw [decide_eq_false (show ¬ (5 ≤ op ∧ op ≤ 8) by omega)] at this; exact this)
            clear hCo
            have e5 : (op == 5) = false := by rw [beq_eq_false_iff_ne]; omega
            have e6 : (op == 6) = false := by rw [beq_eq_false_iff_ne]; omega
            have e7 : (op == 7) = false := by rw [beq_eq_false_iff_ne]; omega
            by_cases hc : col = 0
            · have hc0 : (col != 0) = false := by simpa using hc
              by_cases hv : (⟨k, nn, s⟩ : Va) = Va.nil
              · have hR2 : Hid (R = true) := by
                  show _ = _
                  rw [hR, if_neg (show ¬ (op < 1 ∨ 8 < op) by omega), if_neg (show ¬ (((op = 2 ∨ op = 3) ∧ (kids < 1 ∨ 40 < kids)) ∨ (¬ (op = 2 ∨ op = 3) ∧ kids ≠ 0)) by omega), if_neg (show ¬ ((5 ≤ op ∧ (col < 0 ∨ (kn : Int) ≤ col)) ∨ (op < 5 ∧ col ≠ 0)) by omega), if_neg (show ¬ (op = 5 ∨ op = 6) by omega), if_neg (show ¬ op = 7 by omega), decide_eq_true hv]
                cases hv
                have hs0 : St8 [] = (⟨#[]⟩ : ByteArray) := rfl
                clear hR hCh hRi Hc HK hk hm hc
                go_enter Tryd.func24, Tryd.ntmps24
                go_wp2_with fail
                refine (hCo2.out _).mono ?_
                rintro e w1 ⟨rfl, rfl⟩
                go_wp2_with fail
                refine (hCo2.out _).mono ?_
                rintro e w1 ⟨rfl, rfl⟩
                go_wp2_with fail
                go_ret
                rw [hR2.out]
                exact ⟨rfl, Hb2.out⟩
              · have hR2 : Hid (R = false) := by
                  show _ = _
                  rw [hR, if_neg (show ¬ (op < 1 ∨ 8 < op) by omega), if_neg (show ¬ (((op = 2 ∨ op = 3) ∧ (kids < 1 ∨ 40 < kids)) ∨ (¬ (op = 2 ∨ op = 3) ∧ kids ≠ 0)) by omega), if_neg (show ¬ ((5 ≤ op ∧ (col < 0 ∨ (kn : Int) ≤ col)) ∨ (op < 5 ∧ col ≠ 0)) by omega), if_neg (show ¬ (op = 5 ∨ op = 6) by omega), if_neg (show ¬ op = 7 by omega), decide_eq_false hv]
                rcases va_nil_ne hv with h | ⟨rfl, h⟩ | ⟨rfl, rfl, h⟩
                · have hk0 : (k == 0) = false := by rw [beq_eq_false_iff_ne]; exact h
                  have hk0b : (k != 0) = true := by simpa using h
                  clear hR hv hCh hRi Hc HK hk hm hc
                  go_enter Tryd.func24, Tryd.ntmps24
                  go_wp2_with fail
                  refine (hCo2.out _).mono ?_
                  rintro e w1 ⟨rfl, rfl⟩
                  go_wp2_with fail
                  refine (hCo2.out _).mono ?_
                  rintro e w1 ⟨rfl, rfl⟩
                  go_wp2_with fail
                  go_ret
                  rw [hR2.out]
                  exact ⟨rfl, Hb2.out⟩
                · have hk0 : (nn == 0) = false := by rw [beq_eq_false_iff_ne]; exact h
                  have hk0b : (nn != 0) = true := by simpa using h
                  clear hR hv hCh hRi Hc HK hk hm hc
                  go_enter Tryd.func24, Tryd.ntmps24
                  go_wp2_with fail
                  refine (hCo2.out _).mono ?_
                  rintro e w1 ⟨rfl, rfl⟩
                  go_wp2_with fail
                  refine (hCo2.out _).mono ?_
                  rintro e w1 ⟨rfl, rfl⟩
                  go_wp2_with fail
                  go_ret
                  rw [hR2.out]
                  exact ⟨rfl, Hb2.out⟩
                · have hk0 : (St8 s == ⟨#[]⟩) = false := by rw [St8_nil_eq, decide_eq_false h]
                  have hk1 : (St8 s).toList.isEmpty = false := by rw [St8_empty, decide_eq_false h]
                  have hk2 : ¬ St8 s = ⟨#[]⟩ := fun e => h (St8_nil_iff s |>.1 e)
                  clear hR hv hCh hRi Hc HK hk hm hc
                  go_enter Tryd.func24, Tryd.ntmps24
                  go_wp2_with fail
                  refine (hCo2.out _).mono ?_
                  rintro e w1 ⟨rfl, rfl⟩
                  go_wp2_with fail
                  refine (hCo2.out _).mono ?_
                  rintro e w1 ⟨rfl, rfl⟩
                  go_wp2_with fail
                  go_ret
                  rw [hR2.out]
                  exact ⟨rfl, Hb2.out⟩
            · have hc0 : (col != 0) = true := by simpa using hc
              have hR2 : Hid (R = false) := by
                show _ = _
                rw [hR, if_neg (show ¬ (op < 1 ∨ 8 < op) by omega), if_neg (show ¬ (((op = 2 ∨ op = 3) ∧ (kids < 1 ∨ 40 < kids)) ∨ (¬ (op = 2 ∨ op = 3) ∧ kids ≠ 0)) by omega), if_pos (.inr ⟨by omega, hc⟩)]
              clear hR hk hm hc hCh hRi Hc HK
              go_enter Tryd.func24, Tryd.ntmps24
              go_wp2_with fail
              refine (hCo2.out _).mono ?_
              rintro e w1 ⟨rfl, rfl⟩
              go_wp2_with fail
              refine (hCo2.out _).mono ?_
              rintro e w1 ⟨rfl, rfl⟩
              go_wp2_with fail
              go_ret
              rw [hR2.out]
              exact ⟨rfl, Hb0.out⟩
        · have hk0 : (kids != 0) = true := by simpa using hk
          have hR2 : Hid (R = false) := by
            show _ = _
            rw [hR, if_neg (show ¬ (op < 1 ∨ 8 < op) by omega), if_pos (.inr ⟨hm, hk⟩)]
          clear hR hk hm hCh hRi Hc HK
          go_enter Tryd.func24, Tryd.ntmps24
          go_wp2_with fail
          go_ret
          rw [hR2.out]
          exact ⟨rfl, Hb0.out⟩
end Go.Proofs.YtipnglidepfkbaaDoor
