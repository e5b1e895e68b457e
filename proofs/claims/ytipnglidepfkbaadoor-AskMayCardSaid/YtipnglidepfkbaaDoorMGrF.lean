/- Walks: what a node is, and whether it may be. The walk of ask.may: whether a node may be. -/
import Derived.Test.YtipnglidepfkbaaDoorMGrC
import Derived.Test.YtipnglidepfkbaaDoorMGrD
import Derived.Test.YtipnglidepfkbaaDoorMGrE
import Derived.Deep.RegionLaw
namespace Go.Proofs.YtipnglidepfkbaaDoor
set_option linter.unusedVariables false
set_option linter.unusedSimpArgs false
open Go.RowKit

attribute [local go_sem ↓] Go.wp_at_zero Go.wp_at_succ

set_option maxRecDepth 100000 in
theorem asks_any (n : Nd) (w : World) : Calls Tryd.prog 29 #[n.agg] w fun e w' => e = .returned (.bool n.asks) ∧ Below w.heap.size w w' := by
  obtain ⟨op, col, kids, v⟩ := n
  have hv : Hid ((Nd.mk op col kids v).asks = decide (5 ≤ op ∧ op ≤ 8)) := rfl
  generalize (Nd.mk op col kids v).asks = R at *
  unfold Nd.agg
  by_cases h5 : 5 ≤ op
  · by_cases h8 : op ≤ 8
    · rw [decide_eq_true ⟨h5, h8⟩] at hv
      go_enter Tryd.func29, Tryd.ntmps29
      go_wp2_with fail
      go_ret
      rw [hv.out]
      exact ⟨rfl, (Below.refl _ _).alloc (Nat.le_refl _) _⟩
    · rw [decide_eq_false (by omega)] at hv
      go_enter Tryd.func29, Tryd.ntmps29
      go_wp2_with fail
      go_ret
      rw [hv.out]
      exact ⟨rfl, (Below.refl _ _).alloc (Nat.le_refl _) _⟩
  · rw [decide_eq_false (by omega)] at hv
    go_enter Tryd.func29, Tryd.ntmps29
    go_wp2_with fail
    go_ret
    rw [hv.out]
    exact ⟨rfl, (Below.refl _ _).alloc (Nat.le_refl _) _⟩

set_option maxRecDepth 100000 in
theorem kids_any (n : Nd) (w : World) : Calls Tryd.prog 31 #[n.agg] w fun e w' => e = .returned (.int .i64 n.parts) ∧ Below w.heap.size w w' := by
  obtain ⟨op, col, kids, v⟩ := n
  have hv : Hid ((Nd.mk op col kids v).parts = if op = 2 ∨ op = 3 then kids else if op = 4 then 1 else 0) := rfl
  generalize (Nd.mk op col kids v).parts = R at *
  unfold Nd.agg
  by_cases h2 : op = 2
  · subst h2
    rw [if_pos (.inl rfl)] at hv
    go_enter Tryd.func31, Tryd.ntmps31
    go_wp2_with fail
    go_ret
    rw [hv.out]
    exact ⟨rfl, (Below.refl _ _).alloc (Nat.le_refl _) _⟩
  · have e2 : (op == 2) = false := by rw [beq_eq_false_iff_ne]; exact h2
    by_cases h3 : op = 3
    · subst h3
      rw [if_pos (.inr rfl)] at hv
      go_enter Tryd.func31, Tryd.ntmps31
      go_wp2_with fail
      go_ret
      rw [hv.out]
      exact ⟨rfl, (Below.refl _ _).alloc (Nat.le_refl _) _⟩
    · have e3 : (op == 3) = false := by rw [beq_eq_false_iff_ne]; exact h3
      rw [if_neg (by omega)] at hv
      by_cases h4 : op = 4
      · subst h4
        rw [if_pos rfl] at hv
        go_enter Tryd.func31, Tryd.ntmps31
        go_wp2_with fail
        go_ret
        rw [hv.out]
        exact ⟨rfl, (Below.refl _ _).alloc (Nat.le_refl _) _⟩
      · have e4 : (op == 4) = false := by rw [beq_eq_false_iff_ne]; exact h4
        rw [if_neg h4] at hv
        go_enter Tryd.func31, Tryd.ntmps31
        go_wp2_with fail
        go_ret
        rw [hv.out]
        exact ⟨rfl, (Below.refl _ _).alloc (Nat.le_refl _) _⟩
end Go.Proofs.YtipnglidepfkbaaDoor
namespace Go.Proofs.YtipnglidepfkbaaDoor
set_option linter.unusedVariables false
set_option linter.unusedSimpArgs false
open Go.RowKit

attribute [local go_sem ↓] Go.wp_at_zero Go.wp_at_succ

def kcells (l : List Int) : List Value := l.map fun k => .int .u8 k
theorem kcells_len (l : List Int) : (kcells l).length = l.length := List.length_map _
theorem kcells_get {l : List Int} {j : Nat} (h : j < l.length) : (kcells l)[j]? = some (.int .u8 (l.getD j 0)) := by
  unfold kcells
  rw [List.getElem?_map, List.getElem?_eq_getElem h, List.getD, List.getElem?_eq_getElem h]
  rfl
theorem va_nil_ne {k n : Int} {s : List UInt8} (h : ¬ (⟨k, n, s⟩ : Va) = Va.nil) : (¬ k = 0) ∨ (k = 0 ∧ ¬ n = 0) ∨ (k = 0 ∧ n = 0 ∧ ¬ s = []) := by
  rcases va_cases k n s 0 0 [] with ⟨rfl, rfl, rfl⟩ | h1 | h1 | h1
  · exact absurd rfl h
  · exact .inl h1
  · exact .inr (.inl h1)
  · exact .inr (.inr h1)

set_option maxHeartbeats 16000000 in
set_option maxRecDepth 100000 in
theorem amay_any (kinds : List Int) (K : Option Addr) (kn kc : Nat) (n : Nd) (w : World) (hK : Rd w K (kcells kinds)) (hkn : kinds.length = kn) (hs : n.v.s.length ≤ 1000000) :
    Calls Tryd.prog 22 #[.slice K kn kc, n.agg] w fun e w' => e = .returned (.bool (mayN kinds n)) ∧ Below w.heap.size w w' := by
  obtain ⟨op, col, kids, k, nn, s⟩ := n
  have hR : Hid (mayN kinds ⟨op, col, kids, k, nn, s⟩ = if kids ≠ 0 ∧ op ≠ 2 ∧ op ≠ 3 then false
      else if ((Nd.mk op col kids ⟨k, nn, s⟩).asks = false ∧ (col ≠ 0 ∨ (⟨k, nn, s⟩ : Va) ≠ Va.nil)) ∨ ((Nd.mk op col kids ⟨k, nn, s⟩).asks = true ∧ (col < 0 ∨ (kinds.length : Int) ≤ col)) then false
      else if op = 1 ∨ op = 4 then true else if op = 2 ∨ op = 3 then decide (1 ≤ kids ∧ kids ≤ 40)
      else if op = 5 ∨ op = 6 then rightV ⟨k, nn, s⟩ && decide (k = kinds.getD col.toNat 0)
      else if op = 7 then rightV ⟨k, nn, s⟩ && decide (k = 3) && decide (kinds.getD col.toNat 0 = 3) && (partsM s).2
      else if op = 8 then decide ((⟨k, nn, s⟩ : Va) = Va.nil) else false) := rfl
  generalize mayN kinds ⟨op, col, kids, k, nn, s⟩ = R at *
  have hAs := fun w' => asks_any ⟨op, col, kids, k, nn, s⟩ w'
  have hRi := fun w' => cright_any ⟨k, nn, s⟩ w'
  have hCh := Lib.hid fun w' => check_any s w' hs
  have hasks : Hid ((Nd.mk op col kids ⟨k, nn, s⟩).asks = decide (5 ≤ op ∧ op ≤ 8)) := rfl
  generalize (Nd.mk op col kids ⟨k, nn, s⟩).asks = ask at *
  have hbl := Blk.new w 46 #[.int .u8 op, .int .i64 col, .int .i64 kids, .int .u8 k, .int .i64 nn, .string (St8 s)]
  have hb0 : Below w.heap.size w (w.alloc (.cells #[.int .u8 op, .int .i64 col, .int .i64 kids, .int .u8 k, .int .i64 nn, .string (St8 s)] 46)) := (Below.refl _ _).alloc (Nat.le_refl _) _
  have Hc : Hid (∀ w', Below (w.alloc (.cells #[.int .u8 op, .int .i64 col, .int .i64 kids, .int .u8 k, .int .i64 nn, .string (St8 s)] 46)).heap.size (w.alloc (.cells #[.int .u8 op, .int .i64 col, .int .i64 kids, .int .u8 k, .int .i64 nn, .string (St8 s)] 46)) w' → w'.cell? ⟨w.heap.size, 0, none⟩ = some (.int .u8 op) ∧ w'.cell? ⟨w.heap.size, 1, none⟩ = some (.int .i64 col) ∧ w'.cell? ⟨w.heap.size, 2, none⟩ = some (.int .i64 kids) ∧ w'.cell? ⟨w.heap.size, 3, none⟩ = some (.int .u8 k) ∧ w'.cell? ⟨w.heap.size, 4, none⟩ = some (.int .i64 nn) ∧ w'.cell? ⟨w.heap.size, 5, none⟩ = some (.string (St8 s)) ∧ Below w.heap.size w w') := fun w' hb => ⟨(hbl.below hb).cell 0, (hbl.below hb).cell 1, (hbl.below hb).cell 2, (hbl.below hb).cell 3, (hbl.below hb).cell 4, (hbl.below hb).cell 5, hb0.trans (hb.mono hb0.size)⟩
  have HK : Hid (∀ j : Nat, j < kn → ∃ b o, K = some ⟨b, o, none⟩ ∧ ∀ w', Below w.heap.size w w' → w'.cell? ⟨b, o + j, none⟩ = some (.int .u8 (kinds.getD j 0))) := fun j hj => by
    obtain ⟨b, o, hKe, hr⟩ := hK (by intro e; have := congrArg List.length e; rw [kcells_len, List.length_nil] at this; omega)
    exact ⟨b, o, hKe, fun w' hb => cell_keep hb (hr j _ (kcells_get (by omega)))⟩
  have HB0 := Lib.hid hb0
  unfold Nd.agg at hAs ⊢
  unfold Va.agg at hRi
  dsimp only at hAs hRi ⊢
  rw [hkn] at hR
  clear hK hkn hbl hb0
  by_cases hA : kids ≠ 0 ∧ op ≠ 2 ∧ op ≠ 3
  · rw [if_pos hA] at hR
    have e1 : (kids != 0) = true := by simpa using hA.1
    have e2 : (op != 2) = true := by simpa using hA.2.1
    have e3 : (op != 3) = true := by simpa using hA.2.2
    go_enter Tryd.func22, Tryd.ntmps22
    go_wp2_with fail
    go_ret
    rw [hR.out]
    exact ⟨rfl, HB0.out⟩
  · rw [if_neg hA] at hR
    have hfr : (kids = 0) ∨ (¬ kids = 0 ∧ op = 2) ∨ (¬ kids = 0 ∧ op = 3) := by omega
    by_cases hask : 5 ≤ op ∧ op ≤ 8
    · rw [decide_eq_true hask] at hasks
      have hk0 : kids = 0 := by omega
      subst hk0
      obtain rfl : ask = true := hasks.out
      have Has := Lib.hid hAs
      clear hAs
      by_cases hc : col < 0
      · rw [if_pos (.inr ⟨rfl, .inl hc⟩)] at hR
        go_enter Tryd.func22, Tryd.ntmps22
        go_wp2_with fail
        refine (Has.out _).mono ?_
        rintro e w1 ⟨rfl, hb1⟩
        obtain ⟨d0, d1, d2, d3, d4, d5, hbw1⟩ := Hc.out w1 hb1
        go_wp2_with fail
        refine (Has.out _).mono ?_
        rintro e w2 ⟨rfl, hb2⟩
        have hb2 := hb1.trans (hb2.mono hb1.size)
        obtain ⟨d0, d1, d2, d3, d4, d5, hbw2⟩ := Hc.out w2 hb2
        clear hbw1
        go_wp2_with fail
        go_ret
        rw [hR.out]
        exact ⟨rfl, hbw2⟩
      · obtain ⟨cj, rfl⟩ := Int.eq_ofNat_of_zero_le (show 0 ≤ col by omega)
        by_cases hck : kn ≤ cj
        · rw [if_pos (.inr ⟨rfl, .inr (by omega)⟩)] at hR
          have hckI : (kn : Int) ≤ (cj : Int) := by omega
          go_enter Tryd.func22, Tryd.ntmps22
          go_wp2_with fail
          refine (Has.out _).mono ?_
          rintro e w1 ⟨rfl, hb1⟩
          obtain ⟨d0, d1, d2, d3, d4, d5, hbw1⟩ := Hc.out w1 hb1
          go_wp2_with fail
          refine (Has.out _).mono ?_
          rintro e w2 ⟨rfl, hb2⟩
          have hb2 := hb1.trans (hb2.mono hb1.size)
          obtain ⟨d0, d1, d2, d3, d4, d5, hbw2⟩ := Hc.out w2 hb2
          clear hbw1
          go_wp2_with fail
          go_ret
          rw [hR.out]
          exact ⟨rfl, hbw2⟩
        · rw [if_neg (fun h => by rcases h with ⟨h, _⟩ | ⟨_, h | h⟩ <;> first | omega | exact absurd h (by decide)), if_neg (by omega), if_neg (by omega), Int.toNat_natCast] at hR
          have hckI : ¬ (kn : Int) ≤ (cj : Int) := by omega
          have hckI2 : (cj : Int) < (kn : Int) := by omega
          obtain ⟨kb, ko, rfl, hkc⟩ := HK.out cj (by omega)
          generalize kinds.getD cj 0 = kk at *
          have hkc0 := hkc _ HB0.out
          have Hkc := Lib.hid hkc
          clear hkc HK
          rcases (show op = 5 ∨ op = 6 ∨ op = 7 ∨ op = 8 by omega) with rfl | rfl | rfl | rfl
          · rw [if_pos (.inl rfl)] at hR
            by_cases hri : rightV ⟨k, nn, s⟩ = true
            · rw [hri] at hR hRi
              rw [Bool.true_and] at hR
              have Hri := Lib.hid hRi
              clear hRi hri
              by_cases hkk : k = kk
              · rw [decide_eq_true hkk] at hR
                subst hkk
                go_enter Tryd.func22, Tryd.ntmps22
                go_wp2_with fail
                refine (Has.out _).mono ?_
                rintro e w1 ⟨rfl, hb1⟩
                obtain ⟨d0, d1, d2, d3, d4, d5, hbw1⟩ := Hc.out w1 hb1
                go_wp2_with fail
                refine (Has.out _).mono ?_
                rintro e w2 ⟨rfl, hb2⟩
                have hb2 := hb1.trans (hb2.mono hb1.size)
                obtain ⟨d0, d1, d2, d3, d4, d5, hbw2⟩ := Hc.out w2 hb2
                go_wp2_with fail
                have hk2 := Hkc.out _ hbw2
                go_region_held3 (fun w' => w'.cell? ⟨w.heap.size, 1, none⟩ = some (.int .i64 (cj : Int)) ∧ w'.cell? ⟨w.heap.size, 3, none⟩ = some (.int .u8 k) ∧ w'.cell? ⟨w.heap.size, 4, none⟩ = some (.int .i64 nn) ∧ w'.cell? ⟨w.heap.size, 5, none⟩ = some (.string (St8 s)) ∧ w'.cell? ⟨kb, ko + cj, none⟩ = some (.int .u8 k))
                  (first | exact ⟨d1, d3, d4, d5, hk2⟩ | exact ⟨f1, f3, f4, f5, hk3⟩)
                  (first | (go_at_call 26; refine (Hri.out _).mono ?_; rintro e w3 ⟨rfl, hb3⟩; have hb3 := hb2.trans (Below.trans (show Below w2.heap.size w2 w2.drew from (Below.refl _ _).drew) hb3 |>.mono hb2.size); obtain ⟨f0, f1, f2, f3, f4, f5, hbw3⟩ := Hc.out w3 hb3; have hk3 := Hkc.out _ hbw3; clear hb3))
                go_wp2_with fail
                go_ret
                rw [hR.out]
                exact ⟨rfl, hbw3⟩
              · rw [decide_eq_false hkk] at hR
                have ekk : (k == kk) = false := by rw [beq_eq_false_iff_ne]; exact hkk
                go_enter Tryd.func22, Tryd.ntmps22
                go_wp2_with fail
                refine (Has.out _).mono ?_
                rintro e w1 ⟨rfl, hb1⟩
                obtain ⟨d0, d1, d2, d3, d4, d5, hbw1⟩ := Hc.out w1 hb1
                go_wp2_with fail
                refine (Has.out _).mono ?_
                rintro e w2 ⟨rfl, hb2⟩
                have hb2 := hb1.trans (hb2.mono hb1.size)
                obtain ⟨d0, d1, d2, d3, d4, d5, hbw2⟩ := Hc.out w2 hb2
                go_wp2_with fail
                have hk2 := Hkc.out _ hbw2
                go_region_held3 (fun w' => w'.cell? ⟨w.heap.size, 1, none⟩ = some (.int .i64 (cj : Int)) ∧ w'.cell? ⟨w.heap.size, 3, none⟩ = some (.int .u8 k) ∧ w'.cell? ⟨w.heap.size, 4, none⟩ = some (.int .i64 nn) ∧ w'.cell? ⟨w.heap.size, 5, none⟩ = some (.string (St8 s)) ∧ w'.cell? ⟨kb, ko + cj, none⟩ = some (.int .u8 kk))
                  (first | exact ⟨d1, d3, d4, d5, hk2⟩ | exact ⟨f1, f3, f4, f5, hk3⟩)
                  (first | (go_at_call 26; refine (Hri.out _).mono ?_; rintro e w3 ⟨rfl, hb3⟩; have hb3 := hb2.trans (Below.trans (show Below w2.heap.size w2 w2.drew from (Below.refl _ _).drew) hb3 |>.mono hb2.size); obtain ⟨f0, f1, f2, f3, f4, f5, hbw3⟩ := Hc.out w3 hb3; have hk3 := Hkc.out _ hbw3; clear hb3))
                go_wp2_with fail
                go_ret
                rw [hR.out]
                exact ⟨rfl, hbw3⟩
            · rw [Bool.not_eq_true] at hri
              rw [hri] at hR hRi
              rw [Bool.false_and] at hR
              have Hri := Lib.hid hRi
              clear hRi hri
              go_enter Tryd.func22, Tryd.ntmps22
              go_wp2_with fail
              refine (Has.out _).mono ?_
              rintro e w1 ⟨rfl, hb1⟩
              obtain ⟨d0, d1, d2, d3, d4, d5, hbw1⟩ := Hc.out w1 hb1
              go_wp2_with fail
              refine (Has.out _).mono ?_
              rintro e w2 ⟨rfl, hb2⟩
              have hb2 := hb1.trans (hb2.mono hb1.size)
              obtain ⟨d0, d1, d2, d3, d4, d5, hbw2⟩ := Hc.out w2 hb2
              go_wp2_with fail
              have hk2 := Hkc.out _ hbw2
              refine wp_region_held_drew (S := fun w' => w'.cell? ⟨w.heap.size, 1, none⟩ = some (.int .i64 (cj : Int)) ∧ w'.cell? ⟨w.heap.size, 3, none⟩ = some (.int .u8 k) ∧ w'.cell? ⟨w.heap.size, 4, none⟩ = some (.int .i64 nn) ∧ w'.cell? ⟨w.heap.size, 5, none⟩ = some (.string (St8 s))) (by kernel_rfl) ⟨d1, d3, d4, d5⟩ (fun hHeld => ?_)
              (refine wpAnyH_take (i := 0) (oi := ?oi0_1) (v := ?vv0_1) ?hi0_1 (by kernel_rfl) (by kernel_rfl) (by kernel_rfl) ?hQ0_1 ?hy0_1 (by assumption) ?rest0_1; (case hi0_1 => ((simp only [List.getElem?_toArray, List.getElem?_cons_zero]); rfl)); (case hQ0_1 => exact (fun _ _ _ h => h)); (case hy0_1 => (refine Or.inl ⟨by rfl, ?_⟩; intro w hSw; (try dsimp only at hSw); go_simp; try (with_reducible rfl))); (try simp only [Act.put, List.setIfInBounds_toArray, List.set_cons_zero, List.set_cons_succ]))
              (refine wpAnyH_take (i := 1) (oi := ?oi1_2) (v := ?vv1_2) ?hi1_2 (by kernel_rfl) (by kernel_rfl) (by kernel_rfl) ?hQ1_2 ?hy1_2 (by assumption) ?rest1_2; (case hi1_2 => ((simp only [List.getElem?_toArray, List.getElem?_cons_succ, List.getElem?_cons_zero]); rfl)); (case hQ1_2 => exact (fun _ _ _ h => h)); (case hy1_2 => (refine Or.inl ⟨by rfl, ?_⟩; intro w hSw; (try dsimp only at hSw); go_simp; try (with_reducible rfl))); (try simp only [Act.put, List.setIfInBounds_toArray, List.set_cons_zero, List.set_cons_succ]))
              (refine wpAnyH_ready (rs := [2]) (by kernel_rfl) (by simp) ?_; refine AllReadyH.cons (o := ?oc2_3) ?ho2_3 (fun K hK => ?_) AllReadyH.nil; (case ho2_3 => ((simp only [List.getElem?_toArray, List.getElem?_cons_succ, List.getElem?_cons_zero]); rfl)); go_simp)
              go_at_call 26
              refine (Hri.out _).mono ?_
              rintro e w3 ⟨rfl, hb3⟩
              have hb3 := hb2.trans (Below.trans (show Below w2.heap.size w2 w2.drew from (Below.refl _ _).drew) hb3 |>.mono hb2.size)
              obtain ⟨f0, f1, f2, f3, f4, f5, hbw3⟩ := Hc.out w3 hb3
              clear hHeld
              go_wp2_with fail
              refine hK.out _ _ ⟨f1, f3, f4, f5⟩ (fun hHeld => ?_)
              clear hK K
              (try simp only [Act.put, List.setIfInBounds_toArray, List.set_cons_zero, List.set_cons_succ])
              (refine wpAnyH_take (i := 3) (oi := ?oi3_4) (v := ?vv3_4) ?hi3_4 (by kernel_rfl) (by kernel_rfl) (by kernel_rfl) ?hQ3_4 ?hy3_4 (by assumption) ?rest3_4; (case hi3_4 => ((simp only [List.getElem?_toArray, List.getElem?_cons_succ, List.getElem?_cons_zero]); rfl)); (case hQ3_4 => exact (fun _ _ _ h => h)); (case hy3_4 => (refine Or.inl ⟨by rfl, ?_⟩; intro w hSw; (try dsimp only at hSw); go_simp; try (with_reducible rfl))); (try simp only [Act.put, List.setIfInBounds_toArray, List.set_cons_zero, List.set_cons_succ]))
              (refine wpAnyH_take (i := 4) (oi := ?oi4_5) (v := undef) ?hi4_5 (by kernel_rfl) (by kernel_rfl) (by kernel_rfl) ?hQ4_5 ?hy4_5 (by assumption) ?rest4_5; (case hi4_5 => ((simp only [List.getElem?_toArray, List.getElem?_cons_succ, List.getElem?_cons_zero]); rfl)); (case hQ4_5 => exact (fun _ _ _ h => h)); (case hy4_5 => exact Or.inr ⟨by rfl, rfl⟩); (try simp only [Act.put, List.setIfInBounds_toArray, List.set_cons_zero, List.set_cons_succ]))
              (refine wpAnyH_take (i := 5) (oi := ?oi5_6) (v := undef) ?hi5_6 (by kernel_rfl) (by kernel_rfl) (by kernel_rfl) ?hQ5_6 ?hy5_6 (by assumption) ?rest5_6; (case hi5_6 => ((simp only [List.getElem?_toArray, List.getElem?_cons_succ, List.getElem?_cons_zero]); rfl)); (case hQ5_6 => exact (fun _ _ _ h => h)); (case hy5_6 => exact Or.inr ⟨by rfl, rfl⟩); (try simp only [Act.put, List.setIfInBounds_toArray, List.set_cons_zero, List.set_cons_succ]))
              (refine wpAnyH_take (i := 6) (oi := ?oi6_7) (v := undef) ?hi6_7 (by kernel_rfl) (by kernel_rfl) (by kernel_rfl) ?hQ6_7 ?hy6_7 (by assumption) ?rest6_7; (case hi6_7 => ((simp only [List.getElem?_toArray, List.getElem?_cons_succ, List.getElem?_cons_zero]); rfl)); (case hQ6_7 => exact (fun _ _ _ h => h)); (case hy6_7 => exact Or.inr ⟨by rfl, rfl⟩); (try simp only [Act.put, List.setIfInBounds_toArray, List.set_cons_zero, List.set_cons_succ]))
              (refine wpAnyH_take (i := 7) (oi := ?oi7_8) (v := undef) ?hi7_8 (by kernel_rfl) (by kernel_rfl) (by kernel_rfl) ?hQ7_8 ?hy7_8 (by assumption) ?rest7_8; (case hi7_8 => ((simp only [List.getElem?_toArray, List.getElem?_cons_succ, List.getElem?_cons_zero]); rfl)); (case hQ7_8 => exact (fun _ _ _ h => h)); (case hy7_8 => exact Or.inr ⟨by rfl, rfl⟩); (try simp only [Act.put, List.setIfInBounds_toArray, List.set_cons_zero, List.set_cons_succ]))
              (refine wpAnyH_take (i := 8) (oi := ?oi8_9) (v := undef) ?hi8_9 (by kernel_rfl) (by kernel_rfl) (by kernel_rfl) ?hQ8_9 ?hy8_9 (by assumption) ?rest8_9; (case hi8_9 => ((simp only [List.getElem?_toArray, List.getElem?_cons_succ, List.getElem?_cons_zero]); rfl)); (case hQ8_9 => exact (fun _ _ _ h => h)); (case hy8_9 => exact Or.inr ⟨by rfl, rfl⟩); (try simp only [Act.put, List.setIfInBounds_toArray, List.set_cons_zero, List.set_cons_succ]))
              (refine wpAnyH_take (i := 9) (oi := ?oi9_10) (v := undef) ?hi9_10 (by kernel_rfl) (by kernel_rfl) (by kernel_rfl) ?hQ9_10 ?hy9_10 (by assumption) ?rest9_10; (case hi9_10 => ((simp only [List.getElem?_toArray, List.getElem?_cons_succ, List.getElem?_cons_zero]); rfl)); (case hQ9_10 => exact (fun _ _ _ h => h)); (case hy9_10 => exact Or.inr ⟨by rfl, rfl⟩); (try simp only [Act.put, List.setIfInBounds_toArray, List.set_cons_zero, List.set_cons_succ]))
              (refine wpAnyH_take (i := 10) (oi := ?oi10_11) (v := undef) ?hi10_11 (by kernel_rfl) (by kernel_rfl) (by kernel_rfl) ?hQ10_11 ?hy10_11 (by assumption) ?rest10_11; (case hi10_11 => ((simp only [List.getElem?_toArray, List.getElem?_cons_succ, List.getElem?_cons_zero]); rfl)); (case hQ10_11 => exact (fun _ _ _ h => h)); (case hy10_11 => exact Or.inr ⟨by rfl, rfl⟩); (try simp only [Act.put, List.setIfInBounds_toArray, List.set_cons_zero, List.set_cons_succ]))
              (refine wpAnyH_take (i := 11) (oi := ?oi11_12) (v := undef) ?hi11_12 (by kernel_rfl) (by kernel_rfl) (by kernel_rfl) ?hQ11_12 ?hy11_12 (by assumption) ?rest11_12; (case hi11_12 => ((simp only [List.getElem?_toArray, List.getElem?_cons_succ, List.getElem?_cons_zero]); rfl)); (case hQ11_12 => exact (fun _ _ _ h => h)); (case hy11_12 => exact Or.inr ⟨by rfl, rfl⟩); (try simp only [Act.put, List.setIfInBounds_toArray, List.set_cons_zero, List.set_cons_succ]))
              (refine wpAnyH_take (i := 12) (oi := ?oi12_13) (v := undef) ?hi12_13 (by kernel_rfl) (by kernel_rfl) (by kernel_rfl) ?hQ12_13 ?hy12_13 (by assumption) ?rest12_13; (case hi12_13 => ((simp only [List.getElem?_toArray, List.getElem?_cons_succ, List.getElem?_cons_zero]); rfl)); (case hQ12_13 => exact (fun _ _ _ h => h)); (case hy12_13 => exact Or.inr ⟨by rfl, rfl⟩); (try simp only [Act.put, List.setIfInBounds_toArray, List.set_cons_zero, List.set_cons_succ]))
              (refine wpAnyH_take (i := 13) (oi := ?oi13_14) (v := ?vv13_14) ?hi13_14 (by kernel_rfl) (by kernel_rfl) (by kernel_rfl) ?hQ13_14 ?hy13_14 (by assumption) ?rest13_14; (case hi13_14 => ((simp only [List.getElem?_toArray, List.getElem?_cons_succ, List.getElem?_cons_zero]); rfl)); (case hQ13_14 => exact (fun _ _ _ h => h)); (case hy13_14 => (refine Or.inl ⟨by rfl, ?_⟩; intro w hSw; (try dsimp only at hSw); go_simp; try (with_reducible rfl))); (try simp only [Act.put, List.setIfInBounds_toArray, List.set_cons_zero, List.set_cons_succ]))
              (refine wpAnyH_take (i := 14) (oi := ?oi14_15) (v := ?vv14_15) ?hi14_15 (by kernel_rfl) (by kernel_rfl) (by kernel_rfl) ?hQ14_15 ?hy14_15 (by assumption) ?rest14_15; (case hi14_15 => ((simp only [List.getElem?_toArray, List.getElem?_cons_succ, List.getElem?_cons_zero]); rfl)); (case hQ14_15 => exact (fun _ _ _ h => h)); (case hy14_15 => (refine Or.inl ⟨by rfl, ?_⟩; intro w hSw; (try dsimp only at hSw); go_simp; try (with_reducible rfl))); (try simp only [Act.put, List.setIfInBounds_toArray, List.set_cons_zero, List.set_cons_succ]))
              refine wpAnyH_done (by kernel_rfl) ?_ _
              go_wp2_with fail
              go_ret
              rw [hR.out]
              exact ⟨rfl, hbw3⟩
          · rw [if_pos (.inr rfl)] at hR
            by_cases hri : rightV ⟨k, nn, s⟩ = true
            · rw [hri] at hR hRi
              rw [Bool.true_and] at hR
              have Hri := Lib.hid hRi
              clear hRi hri
              by_cases hkk : k = kk
              · rw [decide_eq_true hkk] at hR
                subst hkk
                go_enter Tryd.func22, Tryd.ntmps22
                go_wp2_with fail
                refine (Has.out _).mono ?_
                rintro e w1 ⟨rfl, hb1⟩
                obtain ⟨d0, d1, d2, d3, d4, d5, hbw1⟩ := Hc.out w1 hb1
                go_wp2_with fail
                refine (Has.out _).mono ?_
                rintro e w2 ⟨rfl, hb2⟩
                have hb2 := hb1.trans (hb2.mono hb1.size)
                obtain ⟨d0, d1, d2, d3, d4, d5, hbw2⟩ := Hc.out w2 hb2
                go_wp2_with fail
                have hk2 := Hkc.out _ hbw2
                go_region_held3 (fun w' => w'.cell? ⟨w.heap.size, 1, none⟩ = some (.int .i64 (cj : Int)) ∧ w'.cell? ⟨w.heap.size, 3, none⟩ = some (.int .u8 k) ∧ w'.cell? ⟨w.heap.size, 4, none⟩ = some (.int .i64 nn) ∧ w'.cell? ⟨w.heap.size, 5, none⟩ = some (.string (St8 s)) ∧ w'.cell? ⟨kb, ko + cj, none⟩ = some (.int .u8 k))
                  (first | exact ⟨d1, d3, d4, d5, hk2⟩ | exact ⟨f1, f3, f4, f5, hk3⟩)
                  (first | (go_at_call 26; refine (Hri.out _).mono ?_; rintro e w3 ⟨rfl, hb3⟩; have hb3 := hb2.trans (Below.trans (show Below w2.heap.size w2 w2.drew from (Below.refl _ _).drew) hb3 |>.mono hb2.size); obtain ⟨f0, f1, f2, f3, f4, f5, hbw3⟩ := Hc.out w3 hb3; have hk3 := Hkc.out _ hbw3; clear hb3))
                go_wp2_with fail
                go_ret
                rw [hR.out]
                exact ⟨rfl, hbw3⟩
              · rw [decide_eq_false hkk] at hR
                have ekk : (k == kk) = false := by rw [beq_eq_false_iff_ne]; exact hkk
                go_enter Tryd.func22, Tryd.ntmps22
                go_wp2_with fail
                refine (Has.out _).mono ?_
                rintro e w1 ⟨rfl, hb1⟩
                obtain ⟨d0, d1, d2, d3, d4, d5, hbw1⟩ := Hc.out w1 hb1
                go_wp2_with fail
                refine (Has.out _).mono ?_
                rintro e w2 ⟨rfl, hb2⟩
                have hb2 := hb1.trans (hb2.mono hb1.size)
                obtain ⟨d0, d1, d2, d3, d4, d5, hbw2⟩ := Hc.out w2 hb2
                go_wp2_with fail
                have hk2 := Hkc.out _ hbw2
                go_region_held3 (fun w' => w'.cell? ⟨w.heap.size, 1, none⟩ = some (.int .i64 (cj : Int)) ∧ w'.cell? ⟨w.heap.size, 3, none⟩ = some (.int .u8 k) ∧ w'.cell? ⟨w.heap.size, 4, none⟩ = some (.int .i64 nn) ∧ w'.cell? ⟨w.heap.size, 5, none⟩ = some (.string (St8 s)) ∧ w'.cell? ⟨kb, ko + cj, none⟩ = some (.int .u8 kk))
                  (first | exact ⟨d1, d3, d4, d5, hk2⟩ | exact ⟨f1, f3, f4, f5, hk3⟩)
                  (first | (go_at_call 26; refine (Hri.out _).mono ?_; rintro e w3 ⟨rfl, hb3⟩; have hb3 := hb2.trans (Below.trans (show Below w2.heap.size w2 w2.drew from (Below.refl _ _).drew) hb3 |>.mono hb2.size); obtain ⟨f0, f1, f2, f3, f4, f5, hbw3⟩ := Hc.out w3 hb3; have hk3 := Hkc.out _ hbw3; clear hb3))
                go_wp2_with fail
                go_ret
                rw [hR.out]
                exact ⟨rfl, hbw3⟩
            · rw [Bool.not_eq_true] at hri
              rw [hri] at hR hRi
              rw [Bool.false_and] at hR
              have Hri := Lib.hid hRi
              clear hRi hri
              go_enter Tryd.func22, Tryd.ntmps22
              go_wp2_with fail
              refine (Has.out _).mono ?_
              rintro e w1 ⟨rfl, hb1⟩
              obtain ⟨d0, d1, d2, d3, d4, d5, hbw1⟩ := Hc.out w1 hb1
              go_wp2_with fail
              refine (Has.out _).mono ?_
              rintro e w2 ⟨rfl, hb2⟩
              have hb2 := hb1.trans (hb2.mono hb1.size)
              obtain ⟨d0, d1, d2, d3, d4, d5, hbw2⟩ := Hc.out w2 hb2
              go_wp2_with fail
              have hk2 := Hkc.out _ hbw2
              refine wp_region_held_drew (S := fun w' => w'.cell? ⟨w.heap.size, 1, none⟩ = some (.int .i64 (cj : Int)) ∧ w'.cell? ⟨w.heap.size, 3, none⟩ = some (.int .u8 k) ∧ w'.cell? ⟨w.heap.size, 4, none⟩ = some (.int .i64 nn) ∧ w'.cell? ⟨w.heap.size, 5, none⟩ = some (.string (St8 s))) (by kernel_rfl) ⟨d1, d3, d4, d5⟩ (fun hHeld => ?_)
              (refine wpAnyH_take (i := 0) (oi := ?oi0_16) (v := ?vv0_16) ?hi0_16 (by kernel_rfl) (by kernel_rfl) (by kernel_rfl) ?hQ0_16 ?hy0_16 (by assumption) ?rest0_16; (case hi0_16 => ((simp only [List.getElem?_toArray, List.getElem?_cons_zero]); rfl)); (case hQ0_16 => exact (fun _ _ _ h => h)); (case hy0_16 => (refine Or.inl ⟨by rfl, ?_⟩; intro w hSw; (try dsimp only at hSw); go_simp; try (with_reducible rfl))); (try simp only [Act.put, List.setIfInBounds_toArray, List.set_cons_zero, List.set_cons_succ]))
              (refine wpAnyH_take (i := 1) (oi := ?oi1_17) (v := ?vv1_17) ?hi1_17 (by kernel_rfl) (by kernel_rfl) (by kernel_rfl) ?hQ1_17 ?hy1_17 (by assumption) ?rest1_17; (case hi1_17 => ((simp only [List.getElem?_toArray, List.getElem?_cons_succ, List.getElem?_cons_zero]); rfl)); (case hQ1_17 => exact (fun _ _ _ h => h)); (case hy1_17 => (refine Or.inl ⟨by rfl, ?_⟩; intro w hSw; (try dsimp only at hSw); go_simp; try (with_reducible rfl))); (try simp only [Act.put, List.setIfInBounds_toArray, List.set_cons_zero, List.set_cons_succ]))
              (refine wpAnyH_ready (rs := [2]) (by kernel_rfl) (by simp) ?_; refine AllReadyH.cons (o := ?oc2_18) ?ho2_18 (fun K hK => ?_) AllReadyH.nil; (case ho2_18 => ((simp only [List.getElem?_toArray, List.getElem?_cons_succ, List.getElem?_cons_zero]); rfl)); go_simp)
              go_at_call 26
              refine (Hri.out _).mono ?_
              rintro e w3 ⟨rfl, hb3⟩
              have hb3 := hb2.trans (Below.trans (show Below w2.heap.size w2 w2.drew from (Below.refl _ _).drew) hb3 |>.mono hb2.size)
              obtain ⟨f0, f1, f2, f3, f4, f5, hbw3⟩ := Hc.out w3 hb3
              clear hHeld
              go_wp2_with fail
              refine hK.out _ _ ⟨f1, f3, f4, f5⟩ (fun hHeld => ?_)
              clear hK K
              (try simp only [Act.put, List.setIfInBounds_toArray, List.set_cons_zero, List.set_cons_succ])
              (refine wpAnyH_take (i := 3) (oi := ?oi3_19) (v := ?vv3_19) ?hi3_19 (by kernel_rfl) (by kernel_rfl) (by kernel_rfl) ?hQ3_19 ?hy3_19 (by assumption) ?rest3_19; (case hi3_19 => ((simp only [List.getElem?_toArray, List.getElem?_cons_succ, List.getElem?_cons_zero]); rfl)); (case hQ3_19 => exact (fun _ _ _ h => h)); (case hy3_19 => (refine Or.inl ⟨by rfl, ?_⟩; intro w hSw; (try dsimp only at hSw); go_simp; try (with_reducible rfl))); (try simp only [Act.put, List.setIfInBounds_toArray, List.set_cons_zero, List.set_cons_succ]))
              (refine wpAnyH_take (i := 4) (oi := ?oi4_20) (v := undef) ?hi4_20 (by kernel_rfl) (by kernel_rfl) (by kernel_rfl) ?hQ4_20 ?hy4_20 (by assumption) ?rest4_20; (case hi4_20 => ((simp only [List.getElem?_toArray, List.getElem?_cons_succ, List.getElem?_cons_zero]); rfl)); (case hQ4_20 => exact (fun _ _ _ h => h)); (case hy4_20 => exact Or.inr ⟨by rfl, rfl⟩); (try simp only [Act.put, List.setIfInBounds_toArray, List.set_cons_zero, List.set_cons_succ]))
              (refine wpAnyH_take (i := 5) (oi := ?oi5_21) (v := undef) ?hi5_21 (by kernel_rfl) (by kernel_rfl) (by kernel_rfl) ?hQ5_21 ?hy5_21 (by assumption) ?rest5_21; (case hi5_21 => ((simp only [List.getElem?_toArray, List.getElem?_cons_succ, List.getElem?_cons_zero]); rfl)); (case hQ5_21 => exact (fun _ _ _ h => h)); (case hy5_21 => exact Or.inr ⟨by rfl, rfl⟩); (try simp only [Act.put, List.setIfInBounds_toArray, List.set_cons_zero, List.set_cons_succ]))
              (refine wpAnyH_take (i := 6) (oi := ?oi6_22) (v := undef) ?hi6_22 (by kernel_rfl) (by kernel_rfl) (by kernel_rfl) ?hQ6_22 ?hy6_22 (by assumption) ?rest6_22; (case hi6_22 => ((simp only [List.getElem?_toArray, List.getElem?_cons_succ, List.getElem?_cons_zero]); rfl)); (case hQ6_22 => exact (fun _ _ _ h => h)); (case hy6_22 => exact Or.inr ⟨by rfl, rfl⟩); (try simp only [Act.put, List.setIfInBounds_toArray, List.set_cons_zero, List.set_cons_succ]))
              (refine wpAnyH_take (i := 7) (oi := ?oi7_23) (v := undef) ?hi7_23 (by kernel_rfl) (by kernel_rfl) (by kernel_rfl) ?hQ7_23 ?hy7_23 (by assumption) ?rest7_23; (case hi7_23 => ((simp only [List.getElem?_toArray, List.getElem?_cons_succ, List.getElem?_cons_zero]); rfl)); (case hQ7_23 => exact (fun _ _ _ h => h)); (case hy7_23 => exact Or.inr ⟨by rfl, rfl⟩); (try simp only [Act.put, List.setIfInBounds_toArray, List.set_cons_zero, List.set_cons_succ]))
              (refine wpAnyH_take (i := 8) (oi := ?oi8_24) (v := undef) ?hi8_24 (by kernel_rfl) (by kernel_rfl) (by kernel_rfl) ?hQ8_24 ?hy8_24 (by assumption) ?rest8_24; (case hi8_24 => ((simp only [List.getElem?_toArray, List.getElem?_cons_succ, List.getElem?_cons_zero]); rfl)); (case hQ8_24 => exact (fun _ _ _ h => h)); (case hy8_24 => exact Or.inr ⟨by rfl, rfl⟩); (try simp only [Act.put, List.setIfInBounds_toArray, List.set_cons_zero, List.set_cons_succ]))
              (refine wpAnyH_take (i := 9) (oi := ?oi9_25) (v := undef) ?hi9_25 (by kernel_rfl) (by kernel_rfl) (by kernel_rfl) ?hQ9_25 ?hy9_25 (by assumption) ?rest9_25; (case hi9_25 => ((simp only [List.getElem?_toArray, List.getElem?_cons_succ, List.getElem?_cons_zero]); rfl)); (case hQ9_25 => exact (fun _ _ _ h => h)); (case hy9_25 => exact Or.inr ⟨by rfl, rfl⟩); (try simp only [Act.put, List.setIfInBounds_toArray, List.set_cons_zero, List.set_cons_succ]))
              (refine wpAnyH_take (i := 10) (oi := ?oi10_26) (v := undef) ?hi10_26 (by kernel_rfl) (by kernel_rfl) (by kernel_rfl) ?hQ10_26 ?hy10_26 (by assumption) ?rest10_26; (case hi10_26 => ((simp only [List.getElem?_toArray, List.getElem?_cons_succ, List.getElem?_cons_zero]); rfl)); (case hQ10_26 => exact (fun _ _ _ h => h)); (case hy10_26 => exact Or.inr ⟨by rfl, rfl⟩); (try simp only [Act.put, List.setIfInBounds_toArray, List.set_cons_zero, List.set_cons_succ]))
              (refine wpAnyH_take (i := 11) (oi := ?oi11_27) (v := undef) ?hi11_27 (by kernel_rfl) (by kernel_rfl) (by kernel_rfl) ?hQ11_27 ?hy11_27 (by assumption) ?rest11_27; (case hi11_27 => ((simp only [List.getElem?_toArray, List.getElem?_cons_succ, List.getElem?_cons_zero]); rfl)); (case hQ11_27 => exact (fun _ _ _ h => h)); (case hy11_27 => exact Or.inr ⟨by rfl, rfl⟩); (try simp only [Act.put, List.setIfInBounds_toArray, List.set_cons_zero, List.set_cons_succ]))
              (refine wpAnyH_take (i := 12) (oi := ?oi12_28) (v := undef) ?hi12_28 (by kernel_rfl) (by kernel_rfl) (by kernel_rfl) ?hQ12_28 ?hy12_28 (by assumption) ?rest12_28; (case hi12_28 => ((simp only [List.getElem?_toArray, List.getElem?_cons_succ, List.getElem?_cons_zero]); rfl)); (case hQ12_28 => exact (fun _ _ _ h => h)); (case hy12_28 => exact Or.inr ⟨by rfl, rfl⟩); (try simp only [Act.put, List.setIfInBounds_toArray, List.set_cons_zero, List.set_cons_succ]))
              (refine wpAnyH_take (i := 13) (oi := ?oi13_29) (v := ?vv13_29) ?hi13_29 (by kernel_rfl) (by kernel_rfl) (by kernel_rfl) ?hQ13_29 ?hy13_29 (by assumption) ?rest13_29; (case hi13_29 => ((simp only [List.getElem?_toArray, List.getElem?_cons_succ, List.getElem?_cons_zero]); rfl)); (case hQ13_29 => exact (fun _ _ _ h => h)); (case hy13_29 => (refine Or.inl ⟨by rfl, ?_⟩; intro w hSw; (try dsimp only at hSw); go_simp; try (with_reducible rfl))); (try simp only [Act.put, List.setIfInBounds_toArray, List.set_cons_zero, List.set_cons_succ]))
              (refine wpAnyH_take (i := 14) (oi := ?oi14_30) (v := ?vv14_30) ?hi14_30 (by kernel_rfl) (by kernel_rfl) (by kernel_rfl) ?hQ14_30 ?hy14_30 (by assumption) ?rest14_30; (case hi14_30 => ((simp only [List.getElem?_toArray, List.getElem?_cons_succ, List.getElem?_cons_zero]); rfl)); (case hQ14_30 => exact (fun _ _ _ h => h)); (case hy14_30 => (refine Or.inl ⟨by rfl, ?_⟩; intro w hSw; (try dsimp only at hSw); go_simp; try (with_reducible rfl))); (try simp only [Act.put, List.setIfInBounds_toArray, List.set_cons_zero, List.set_cons_succ]))
              refine wpAnyH_done (by kernel_rfl) ?_ _
              go_wp2_with fail
              go_ret
              rw [hR.out]
              exact ⟨rfl, hbw3⟩
          · rw [if_neg (by omega), if_pos rfl] at hR
            by_cases hri : rightV ⟨k, nn, s⟩ = true
            · rw [hri] at hR hRi
              rw [Bool.true_and] at hR
              have Hri := Lib.hid hRi
              clear hRi hri
              by_cases hk3 : k = 3
              · subst hk3
                rw [decide_eq_true rfl, Bool.true_and] at hR
                by_cases hkk : kk = 3
                · subst hkk
                  rw [decide_eq_true rfl, Bool.true_and] at hR
                  by_cases hcb : (partsM s).2 = true
                  · rw [hcb] at hR
                    have Hch : Hid (∀ w', Calls Tryd.prog 50 #[.string (St8 s)] w' fun e w'' => e = .returned (.int .i64 0) ∧ Below w'.heap.size w' w'') := by rw [if_pos hcb] at hCh; exact hCh
                    clear hCh hcb
                    go_enter Tryd.func22, Tryd.ntmps22
                    go_wp2_with fail
                    refine (Has.out _).mono ?_
                    rintro e w1 ⟨rfl, hb1⟩
                    obtain ⟨d0, d1, d2, d3, d4, d5, hbw1⟩ := Hc.out w1 hb1
                    have hk1 := Hkc.out _ hbw1
                    go_wp2_with fail
                    refine (Has.out _).mono ?_
                    rintro e w2 ⟨rfl, hb2⟩
                    have hb2 := hb1.trans (hb2.mono hb1.size)
                    obtain ⟨d0, d1, d2, d3, d4, d5, hbw2⟩ := Hc.out w2 hb2
                    have hk2 := Hkc.out _ hbw2
                    go_wp2_with fail
                    refine (Hri.out _).mono ?_
                    rintro e w3 ⟨rfl, hb3⟩
                    have hb3 := hb2.trans (hb3.mono hb2.size)
                    obtain ⟨d0, d1, d2, d3, d4, d5, hbw3⟩ := Hc.out w3 hb3
                    have hk3 := Hkc.out _ hbw3
                    go_wp2_with fail
                    refine (Hch.out _).mono ?_
                    rintro e w4 ⟨rfl, hb4⟩
                    have hb4 := hb3.trans (hb4.mono hb3.size)
                    obtain ⟨d0, d1, d2, d3, d4, d5, hbw4⟩ := Hc.out w4 hb4
                    have hk4 := Hkc.out _ hbw4
                    go_wp2_with fail
                    go_ret
                    rw [hR.out]
                    exact ⟨rfl, hbw4⟩
                  · rw [Bool.not_eq_true] at hcb
                    rw [hcb] at hR
                    have Hch : Hid (∀ w', Calls Tryd.prog 50 #[.string (St8 s)] w' fun e w'' => e = .returned (.int .i64 30) ∧ Below w'.heap.size w' w'') := by rw [hcb] at hCh; exact hCh
                    clear hCh hcb
                    go_enter Tryd.func22, Tryd.ntmps22
                    go_wp2_with fail
                    refine (Has.out _).mono ?_
                    rintro e w1 ⟨rfl, hb1⟩
                    obtain ⟨d0, d1, d2, d3, d4, d5, hbw1⟩ := Hc.out w1 hb1
                    have hk1 := Hkc.out _ hbw1
                    go_wp2_with fail
                    refine (Has.out _).mono ?_
                    rintro e w2 ⟨rfl, hb2⟩
                    have hb2 := hb1.trans (hb2.mono hb1.size)
                    obtain ⟨d0, d1, d2, d3, d4, d5, hbw2⟩ := Hc.out w2 hb2
                    have hk2 := Hkc.out _ hbw2
                    go_wp2_with fail
                    refine (Hri.out _).mono ?_
                    rintro e w3 ⟨rfl, hb3⟩
                    have hb3 := hb2.trans (hb3.mono hb2.size)
                    obtain ⟨d0, d1, d2, d3, d4, d5, hbw3⟩ := Hc.out w3 hb3
                    have hk3 := Hkc.out _ hbw3
                    go_wp2_with fail
                    refine (Hch.out _).mono ?_
                    rintro e w4 ⟨rfl, hb4⟩
                    have hb4 := hb3.trans (hb4.mono hb3.size)
                    obtain ⟨d0, d1, d2, d3, d4, d5, hbw4⟩ := Hc.out w4 hb4
                    have hk4 := Hkc.out _ hbw4
                    go_wp2_with fail
                    go_ret
                    rw [hR.out]
                    exact ⟨rfl, hbw4⟩
                · rw [decide_eq_false hkk, Bool.false_and] at hR
                  have ekk : (kk == 3) = false := by rw [beq_eq_false_iff_ne]; exact hkk
                  go_enter Tryd.func22, Tryd.ntmps22
                  go_wp2_with fail
                  refine (Has.out _).mono ?_
                  rintro e w1 ⟨rfl, hb1⟩
                  obtain ⟨d0, d1, d2, d3, d4, d5, hbw1⟩ := Hc.out w1 hb1
                  have hk1 := Hkc.out _ hbw1
                  go_wp2_with fail
                  refine (Has.out _).mono ?_
                  rintro e w2 ⟨rfl, hb2⟩
                  have hb2 := hb1.trans (hb2.mono hb1.size)
                  obtain ⟨d0, d1, d2, d3, d4, d5, hbw2⟩ := Hc.out w2 hb2
                  have hk2 := Hkc.out _ hbw2
                  go_wp2_with fail
                  refine (Hri.out _).mono ?_
                  rintro e w3 ⟨rfl, hb3⟩
                  have hb3 := hb2.trans (hb3.mono hb2.size)
                  obtain ⟨d0, d1, d2, d3, d4, d5, hbw3⟩ := Hc.out w3 hb3
                  have hk3 := Hkc.out _ hbw3
                  go_wp2_with fail
                  go_ret
                  rw [hR.out]
                  exact ⟨rfl, hbw3⟩
              · rw [decide_eq_false hk3, Bool.false_and, Bool.false_and] at hR
                have ek3 : (k == 3) = false := by rw [beq_eq_false_iff_ne]; exact hk3
                go_enter Tryd.func22, Tryd.ntmps22
                go_wp2_with fail
                refine (Has.out _).mono ?_
                rintro e w1 ⟨rfl, hb1⟩
                obtain ⟨d0, d1, d2, d3, d4, d5, hbw1⟩ := Hc.out w1 hb1
                have hk1 := Hkc.out _ hbw1
                go_wp2_with fail
                refine (Has.out _).mono ?_
                rintro e w2 ⟨rfl, hb2⟩
                have hb2 := hb1.trans (hb2.mono hb1.size)
                obtain ⟨d0, d1, d2, d3, d4, d5, hbw2⟩ := Hc.out w2 hb2
                have hk2 := Hkc.out _ hbw2
                go_wp2_with fail
                refine (Hri.out _).mono ?_
                rintro e w3 ⟨rfl, hb3⟩
                have hb3 := hb2.trans (hb3.mono hb2.size)
                obtain ⟨d0, d1, d2, d3, d4, d5, hbw3⟩ := Hc.out w3 hb3
                have hk3 := Hkc.out _ hbw3
                go_wp2_with fail
                go_ret
                rw [hR.out]
                exact ⟨rfl, hbw3⟩
            · rw [Bool.not_eq_true] at hri
              rw [hri] at hR hRi
              rw [Bool.false_and, Bool.false_and, Bool.false_and] at hR
              have Hri := Lib.hid hRi
              clear hRi hri
              go_enter Tryd.func22, Tryd.ntmps22
              go_wp2_with fail
              refine (Has.out _).mono ?_
              rintro e w1 ⟨rfl, hb1⟩
              obtain ⟨d0, d1, d2, d3, d4, d5, hbw1⟩ := Hc.out w1 hb1
              have hk1 := Hkc.out _ hbw1
              go_wp2_with fail
              refine (Has.out _).mono ?_
              rintro e w2 ⟨rfl, hb2⟩
              have hb2 := hb1.trans (hb2.mono hb1.size)
              obtain ⟨d0, d1, d2, d3, d4, d5, hbw2⟩ := Hc.out w2 hb2
              have hk2 := Hkc.out _ hbw2
              go_wp2_with fail
              refine (Hri.out _).mono ?_
              rintro e w3 ⟨rfl, hb3⟩
              have hb3 := hb2.trans (hb3.mono hb2.size)
              obtain ⟨d0, d1, d2, d3, d4, d5, hbw3⟩ := Hc.out w3 hb3
              have hk3 := Hkc.out _ hbw3
              go_wp2_with fail
              go_ret
              rw [hR.out]
              exact ⟨rfl, hbw3⟩
          · rw [if_neg (by omega), if_neg (by omega), if_pos rfl] at hR
            clear hRi hCh
            by_cases hnil : (⟨k, nn, s⟩ : Va) = Va.nil
            · rw [decide_eq_true hnil] at hR
              injection hnil with e1 e2 e3
              subst e1 e2 e3
              have hs0 : St8 [] = (⟨#[]⟩ : ByteArray) := rfl
              go_enter Tryd.func22, Tryd.ntmps22
              go_wp2_with fail
              refine (Has.out _).mono ?_
              rintro e w1 ⟨rfl, hb1⟩
              obtain ⟨d0, d1, d2, d3, d4, d5, hbw1⟩ := Hc.out w1 hb1
              go_wp2_with fail
              refine (Has.out _).mono ?_
              rintro e w2 ⟨rfl, hb2⟩
              have hb2 := hb1.trans (hb2.mono hb1.size)
              obtain ⟨d0, d1, d2, d3, d4, d5, hbw2⟩ := Hc.out w2 hb2
              clear hbw1
              go_wp2_with fail
              go_ret
              rw [hR.out]
              exact ⟨rfl, hbw2⟩
            · rw [decide_eq_false hnil] at hR
              have h2 := St8_nil_cmp s
              have h3 := St8_nil_eq s
              have h6 := St8_nil_iff s
              have h7 := St8_empty s
              rcases va_nil_ne hnil with h | ⟨rfl, h⟩ | ⟨rfl, rfl, h⟩
              · clear hnil
                go_enter Tryd.func22, Tryd.ntmps22
                go_wp2_with fail
                refine (Has.out _).mono ?_
                rintro e w1 ⟨rfl, hb1⟩
                obtain ⟨d0, d1, d2, d3, d4, d5, hbw1⟩ := Hc.out w1 hb1
                go_wp2_with fail
                refine (Has.out _).mono ?_
                rintro e w2 ⟨rfl, hb2⟩
                have hb2 := hb1.trans (hb2.mono hb1.size)
                obtain ⟨d0, d1, d2, d3, d4, d5, hbw2⟩ := Hc.out w2 hb2
                clear hbw1
                go_wp2_with fail
                go_ret
                rw [hR.out]
                exact ⟨rfl, hbw2⟩
              · clear hnil
                go_enter Tryd.func22, Tryd.ntmps22
                go_wp2_with fail
                refine (Has.out _).mono ?_
                rintro e w1 ⟨rfl, hb1⟩
                obtain ⟨d0, d1, d2, d3, d4, d5, hbw1⟩ := Hc.out w1 hb1
                go_wp2_with fail
                refine (Has.out _).mono ?_
                rintro e w2 ⟨rfl, hb2⟩
                have hb2 := hb1.trans (hb2.mono hb1.size)
                obtain ⟨d0, d1, d2, d3, d4, d5, hbw2⟩ := Hc.out w2 hb2
                clear hbw1
                go_wp2_with fail
                go_ret
                rw [hR.out]
                exact ⟨rfl, hbw2⟩
              · clear hnil
                go_enter Tryd.func22, Tryd.ntmps22
                go_wp2_with fail
                refine (Has.out _).mono ?_
                rintro e w1 ⟨rfl, hb1⟩
                obtain ⟨d0, d1, d2, d3, d4, d5, hbw1⟩ := Hc.out w1 hb1
                go_wp2_with fail
                refine (Has.out _).mono ?_
                rintro e w2 ⟨rfl, hb2⟩
                have hb2 := hb1.trans (hb2.mono hb1.size)
                obtain ⟨d0, d1, d2, d3, d4, d5, hbw2⟩ := Hc.out w2 hb2
                clear hbw1
                go_wp2_with fail
                go_ret
                rw [hR.out]
                exact ⟨rfl, hbw2⟩
    · rw [decide_eq_false hask] at hasks
      obtain rfl : ask = false := hasks.out
      have Has := Lib.hid hAs
      clear hAs HK hRi hCh
      rcases hfr with rfl | ⟨hk0, rfl⟩ | ⟨hk0, rfl⟩
      · clear hA
        by_cases hc : col = 0
        · subst hc
          by_cases hnil : (⟨k, nn, s⟩ : Va) = Va.nil
          · rw [if_neg (fun h => by rcases h with ⟨_, h | h⟩ | ⟨h, _⟩ <;> first | exact h rfl | exact h hnil | exact absurd h (by decide))] at hR
            injection hnil with e1 e2 e3
            subst e1 e2 e3
            have hs0 : St8 [] = (⟨#[]⟩ : ByteArray) := rfl
            by_cases h14 : op = 1 ∨ op = 4
            · rw [if_pos h14] at hR
              rcases h14 with rfl | rfl
              · skip
                go_enter Tryd.func22, Tryd.ntmps22
                go_wp2_with fail
                refine (Has.out _).mono ?_
                rintro e w1 ⟨rfl, hb1⟩
                obtain ⟨d0, d1, d2, d3, d4, d5, hbw1⟩ := Hc.out w1 hb1
                go_wp2_with fail
                refine (Has.out _).mono ?_
                rintro e w2 ⟨rfl, hb2⟩
                have hb2 := hb1.trans (hb2.mono hb1.size)
                obtain ⟨d0, d1, d2, d3, d4, d5, hbw2⟩ := Hc.out w2 hb2
                clear hbw1
                go_wp2_with fail
                go_ret
                rw [hR.out]
                exact ⟨rfl, hbw2⟩
              · skip
                go_enter Tryd.func22, Tryd.ntmps22
                go_wp2_with fail
                refine (Has.out _).mono ?_
                rintro e w1 ⟨rfl, hb1⟩
                obtain ⟨d0, d1, d2, d3, d4, d5, hbw1⟩ := Hc.out w1 hb1
                go_wp2_with fail
                refine (Has.out _).mono ?_
                rintro e w2 ⟨rfl, hb2⟩
                have hb2 := hb1.trans (hb2.mono hb1.size)
                obtain ⟨d0, d1, d2, d3, d4, d5, hbw2⟩ := Hc.out w2 hb2
                clear hbw1
                go_wp2_with fail
                go_ret
                rw [hR.out]
                exact ⟨rfl, hbw2⟩
            · rw [if_neg h14] at hR
              by_cases h23 : op = 2 ∨ op = 3
              · rw [if_pos h23, decide_eq_false (by omega)] at hR
                rcases h23 with rfl | rfl
                · skip
                  go_enter Tryd.func22, Tryd.ntmps22
                  go_wp2_with fail
                  refine (Has.out _).mono ?_
                  rintro e w1 ⟨rfl, hb1⟩
                  obtain ⟨d0, d1, d2, d3, d4, d5, hbw1⟩ := Hc.out w1 hb1
                  go_wp2_with fail
                  refine (Has.out _).mono ?_
                  rintro e w2 ⟨rfl, hb2⟩
                  have hb2 := hb1.trans (hb2.mono hb1.size)
                  obtain ⟨d0, d1, d2, d3, d4, d5, hbw2⟩ := Hc.out w2 hb2
                  clear hbw1
                  go_wp2_with fail
                  go_ret
                  rw [hR.out]
                  exact ⟨rfl, hbw2⟩
                · skip
                  go_enter Tryd.func22, Tryd.ntmps22
                  go_wp2_with fail
                  refine (Has.out _).mono ?_
                  rintro e w1 ⟨rfl, hb1⟩
                  obtain ⟨d0, d1, d2, d3, d4, d5, hbw1⟩ := Hc.out w1 hb1
                  go_wp2_with fail
                  refine (Has.out _).mono ?_
                  rintro e w2 ⟨rfl, hb2⟩
                  have hb2 := hb1.trans (hb2.mono hb1.size)
                  obtain ⟨d0, d1, d2, d3, d4, d5, hbw2⟩ := Hc.out w2 hb2
                  clear hbw1
                  go_wp2_with fail
                  go_ret
                  rw [hR.out]
                  exact ⟨rfl, hbw2⟩
              · rw [if_neg h23, if_neg (by omega), if_neg (by omega), if_neg (by omega)] at hR
                have o1 : (op == 1) = false := by rw [beq_eq_false_iff_ne]; omega
                have o2 : (op == 2) = false := by rw [beq_eq_false_iff_ne]; omega
                have o3 : (op == 3) = false := by rw [beq_eq_false_iff_ne]; omega
                have o4 : (op == 4) = false := by rw [beq_eq_false_iff_ne]; omega
                have o5 : (op == 5) = false := by rw [beq_eq_false_iff_ne]; omega
                have o6 : (op == 6) = false := by rw [beq_eq_false_iff_ne]; omega
                have o7 : (op == 7) = false := by rw [beq_eq_false_iff_ne]; omega
                have o8 : (op == 8) = false := by rw [beq_eq_false_iff_ne]; omega
                go_enter Tryd.func22, Tryd.ntmps22
                go_wp2_with fail
                refine (Has.out _).mono ?_
                rintro e w1 ⟨rfl, hb1⟩
                obtain ⟨d0, d1, d2, d3, d4, d5, hbw1⟩ := Hc.out w1 hb1
                go_wp2_with fail
                refine (Has.out _).mono ?_
                rintro e w2 ⟨rfl, hb2⟩
                have hb2 := hb1.trans (hb2.mono hb1.size)
                obtain ⟨d0, d1, d2, d3, d4, d5, hbw2⟩ := Hc.out w2 hb2
                clear hbw1
                go_wp2_with fail
                go_ret
                rw [hR.out]
                exact ⟨rfl, hbw2⟩
          · rw [if_pos (.inl ⟨rfl, .inr hnil⟩)] at hR
            have h2 := St8_nil_cmp s
            have h3 := St8_nil_eq s
            have h6 := St8_nil_iff s
            have h7 := St8_empty s
            rcases va_nil_ne hnil with h | ⟨rfl, h⟩ | ⟨rfl, rfl, h⟩
            · clear hnil
              go_enter Tryd.func22, Tryd.ntmps22
              go_wp2_with fail
              refine (Has.out _).mono ?_
              rintro e w1 ⟨rfl, hb1⟩
              obtain ⟨d0, d1, d2, d3, d4, d5, hbw1⟩ := Hc.out w1 hb1
              go_wp2_with fail
              go_ret
              rw [hR.out]
              exact ⟨rfl, hbw1⟩
            · clear hnil
              go_enter Tryd.func22, Tryd.ntmps22
              go_wp2_with fail
              refine (Has.out _).mono ?_
              rintro e w1 ⟨rfl, hb1⟩
              obtain ⟨d0, d1, d2, d3, d4, d5, hbw1⟩ := Hc.out w1 hb1
              go_wp2_with fail
              go_ret
              rw [hR.out]
              exact ⟨rfl, hbw1⟩
            · clear hnil
              go_enter Tryd.func22, Tryd.ntmps22
              go_wp2_with fail
              refine (Has.out _).mono ?_
              rintro e w1 ⟨rfl, hb1⟩
              obtain ⟨d0, d1, d2, d3, d4, d5, hbw1⟩ := Hc.out w1 hb1
              go_wp2_with fail
              go_ret
              rw [hR.out]
              exact ⟨rfl, hbw1⟩
        · rw [if_pos (.inl ⟨rfl, .inl hc⟩)] at hR
          have ec : (col != 0) = true := by simpa using hc
          go_enter Tryd.func22, Tryd.ntmps22
          go_wp2_with fail
          refine (Has.out _).mono ?_
          rintro e w1 ⟨rfl, hb1⟩
          obtain ⟨d0, d1, d2, d3, d4, d5, hbw1⟩ := Hc.out w1 hb1
          go_wp2_with fail
          go_ret
          rw [hR.out]
          exact ⟨rfl, hbw1⟩
      · clear hA
        have ek : (kids != 0) = true := by simpa using hk0
        by_cases hc : col = 0
        · subst hc
          by_cases hnil : (⟨k, nn, s⟩ : Va) = Va.nil
          · rw [if_neg (fun h => by rcases h with ⟨_, h | h⟩ | ⟨h, _⟩ <;> first | exact h rfl | exact h hnil | exact absurd h (by decide))] at hR
            injection hnil with e1 e2 e3
            subst e1 e2 e3
            have hs0 : St8 [] = (⟨#[]⟩ : ByteArray) := rfl
            rw [if_neg (by omega), if_pos (by omega)] at hR
            by_cases h1 : 1 ≤ kids
            · by_cases h40 : kids ≤ 40
              · rw [decide_eq_true ⟨h1, h40⟩] at hR
                go_enter Tryd.func22, Tryd.ntmps22
                go_wp2_with fail
                refine (Has.out _).mono ?_
                rintro e w1 ⟨rfl, hb1⟩
                obtain ⟨d0, d1, d2, d3, d4, d5, hbw1⟩ := Hc.out w1 hb1
                go_wp2_with fail
                refine (Has.out _).mono ?_
                rintro e w2 ⟨rfl, hb2⟩
                have hb2 := hb1.trans (hb2.mono hb1.size)
                obtain ⟨d0, d1, d2, d3, d4, d5, hbw2⟩ := Hc.out w2 hb2
                clear hbw1
                go_wp2_with fail
                go_ret
                rw [hR.out]
                exact ⟨rfl, hbw2⟩
              · rw [decide_eq_false (by omega)] at hR
                have dk40 : decide (kids ≤ 40) = false := decide_eq_false h40
                go_enter Tryd.func22, Tryd.ntmps22
                go_wp2_with fail
                refine (Has.out _).mono ?_
                rintro e w1 ⟨rfl, hb1⟩
                obtain ⟨d0, d1, d2, d3, d4, d5, hbw1⟩ := Hc.out w1 hb1
                go_wp2_with fail
                refine (Has.out _).mono ?_
                rintro e w2 ⟨rfl, hb2⟩
                have hb2 := hb1.trans (hb2.mono hb1.size)
                obtain ⟨d0, d1, d2, d3, d4, d5, hbw2⟩ := Hc.out w2 hb2
                clear hbw1
                go_wp2_with fail
                go_ret
                rw [hR.out]
                exact ⟨rfl, hbw2⟩
            · rw [decide_eq_false (by omega)] at hR
              go_enter Tryd.func22, Tryd.ntmps22
              go_wp2_with fail
              refine (Has.out _).mono ?_
              rintro e w1 ⟨rfl, hb1⟩
              obtain ⟨d0, d1, d2, d3, d4, d5, hbw1⟩ := Hc.out w1 hb1
              go_wp2_with fail
              refine (Has.out _).mono ?_
              rintro e w2 ⟨rfl, hb2⟩
              have hb2 := hb1.trans (hb2.mono hb1.size)
              obtain ⟨d0, d1, d2, d3, d4, d5, hbw2⟩ := Hc.out w2 hb2
              clear hbw1
              go_wp2_with fail
              go_ret
              rw [hR.out]
              exact ⟨rfl, hbw2⟩
          · rw [if_pos (.inl ⟨rfl, .inr hnil⟩)] at hR
            have h2 := St8_nil_cmp s
            have h3 := St8_nil_eq s
            have h6 := St8_nil_iff s
            have h7 := St8_empty s
            rcases va_nil_ne hnil with h | ⟨rfl, h⟩ | ⟨rfl, rfl, h⟩
            · clear hnil
              go_enter Tryd.func22, Tryd.ntmps22
              go_wp2_with fail
              refine (Has.out _).mono ?_
              rintro e w1 ⟨rfl, hb1⟩
              obtain ⟨d0, d1, d2, d3, d4, d5, hbw1⟩ := Hc.out w1 hb1
              go_wp2_with fail
              go_ret
              rw [hR.out]
              exact ⟨rfl, hbw1⟩
            · clear hnil
              go_enter Tryd.func22, Tryd.ntmps22
              go_wp2_with fail
              refine (Has.out _).mono ?_
              rintro e w1 ⟨rfl, hb1⟩
              obtain ⟨d0, d1, d2, d3, d4, d5, hbw1⟩ := Hc.out w1 hb1
              go_wp2_with fail
              go_ret
              rw [hR.out]
              exact ⟨rfl, hbw1⟩
            · clear hnil
              go_enter Tryd.func22, Tryd.ntmps22
              go_wp2_with fail
              refine (Has.out _).mono ?_
              rintro e w1 ⟨rfl, hb1⟩
              obtain ⟨d0, d1, d2, d3, d4, d5, hbw1⟩ := Hc.out w1 hb1
              go_wp2_with fail
              go_ret
              rw [hR.out]
              exact ⟨rfl, hbw1⟩
        · rw [if_pos (.inl ⟨rfl, .inl hc⟩)] at hR
          have ec : (col != 0) = true := by simpa using hc
          go_enter Tryd.func22, Tryd.ntmps22
          go_wp2_with fail
          refine (Has.out _).mono ?_
          rintro e w1 ⟨rfl, hb1⟩
          obtain ⟨d0, d1, d2, d3, d4, d5, hbw1⟩ := Hc.out w1 hb1
          go_wp2_with fail
          go_ret
          rw [hR.out]
          exact ⟨rfl, hbw1⟩
      · clear hA
        have ek : (kids != 0) = true := by simpa using hk0
        by_cases hc : col = 0
        · subst hc
          by_cases hnil : (⟨k, nn, s⟩ : Va) = Va.nil
          · rw [if_neg (fun h => by rcases h with ⟨_, h | h⟩ | ⟨h, _⟩ <;> first | exact h rfl | exact h hnil | exact absurd h (by decide))] at hR
            injection hnil with e1 e2 e3
            subst e1 e2 e3
            have hs0 : St8 [] = (⟨#[]⟩ : ByteArray) := rfl
            rw [if_neg (by omega), if_pos (by omega)] at hR
            by_cases h1 : 1 ≤ kids
            · by_cases h40 : kids ≤ 40
              · rw [decide_eq_true ⟨h1, h40⟩] at hR
                go_enter Tryd.func22, Tryd.ntmps22
                go_wp2_with fail
                refine (Has.out _).mono ?_
                rintro e w1 ⟨rfl, hb1⟩
                obtain ⟨d0, d1, d2, d3, d4, d5, hbw1⟩ := Hc.out w1 hb1
                go_wp2_with fail
                refine (Has.out _).mono ?_
                rintro e w2 ⟨rfl, hb2⟩
                have hb2 := hb1.trans (hb2.mono hb1.size)
                obtain ⟨d0, d1, d2, d3, d4, d5, hbw2⟩ := Hc.out w2 hb2
                clear hbw1
                go_wp2_with fail
                go_ret
                rw [hR.out]
                exact ⟨rfl, hbw2⟩
              · rw [decide_eq_false (by omega)] at hR
                have dk40 : decide (kids ≤ 40) = false := decide_eq_false h40
                go_enter Tryd.func22, Tryd.ntmps22
                go_wp2_with fail
                refine (Has.out _).mono ?_
                rintro e w1 ⟨rfl, hb1⟩
                obtain ⟨d0, d1, d2, d3, d4, d5, hbw1⟩ := Hc.out w1 hb1
                go_wp2_with fail
                refine (Has.out _).mono ?_
                rintro e w2 ⟨rfl, hb2⟩
                have hb2 := hb1.trans (hb2.mono hb1.size)
                obtain ⟨d0, d1, d2, d3, d4, d5, hbw2⟩ := Hc.out w2 hb2
                clear hbw1
                go_wp2_with fail
                go_ret
                rw [hR.out]
                exact ⟨rfl, hbw2⟩
            · rw [decide_eq_false (by omega)] at hR
              go_enter Tryd.func22, Tryd.ntmps22
              go_wp2_with fail
              refine (Has.out _).mono ?_
              rintro e w1 ⟨rfl, hb1⟩
              obtain ⟨d0, d1, d2, d3, d4, d5, hbw1⟩ := Hc.out w1 hb1
              go_wp2_with fail
              refine (Has.out _).mono ?_
              rintro e w2 ⟨rfl, hb2⟩
              have hb2 := hb1.trans (hb2.mono hb1.size)
              obtain ⟨d0, d1, d2, d3, d4, d5, hbw2⟩ := Hc.out w2 hb2
              clear hbw1
              go_wp2_with fail
              go_ret
              rw [hR.out]
              exact ⟨rfl, hbw2⟩
          · rw [if_pos (.inl ⟨rfl, .inr hnil⟩)] at hR
            have h2 := St8_nil_cmp s
            have h3 := St8_nil_eq s
            have h6 := St8_nil_iff s
            have h7 := St8_empty s
            rcases va_nil_ne hnil with h | ⟨rfl, h⟩ | ⟨rfl, rfl, h⟩
            · clear hnil
              go_enter Tryd.func22, Tryd.ntmps22
              go_wp2_with fail
              refine (Has.out _).mono ?_
              rintro e w1 ⟨rfl, hb1⟩
              obtain ⟨d0, d1, d2, d3, d4, d5, hbw1⟩ := Hc.out w1 hb1
              go_wp2_with fail
              go_ret
              rw [hR.out]
              exact ⟨rfl, hbw1⟩
            · clear hnil
              go_enter Tryd.func22, Tryd.ntmps22
              go_wp2_with fail
              refine (Has.out _).mono ?_
              rintro e w1 ⟨rfl, hb1⟩
              obtain ⟨d0, d1, d2, d3, d4, d5, hbw1⟩ := Hc.out w1 hb1
              go_wp2_with fail
              go_ret
              rw [hR.out]
              exact ⟨rfl, hbw1⟩
            · clear hnil
              go_enter Tryd.func22, Tryd.ntmps22
              go_wp2_with fail
              refine (Has.out _).mono ?_
              rintro e w1 ⟨rfl, hb1⟩
              obtain ⟨d0, d1, d2, d3, d4, d5, hbw1⟩ := Hc.out w1 hb1
              go_wp2_with fail
              go_ret
              rw [hR.out]
              exact ⟨rfl, hbw1⟩
        · rw [if_pos (.inl ⟨rfl, .inl hc⟩)] at hR
          have ec : (col != 0) = true := by simpa using hc
          go_enter Tryd.func22, Tryd.ntmps22
          go_wp2_with fail
          refine (Has.out _).mono ?_
          rintro e w1 ⟨rfl, hb1⟩
          obtain ⟨d0, d1, d2, d3, d4, d5, hbw1⟩ := Hc.out w1 hb1
          go_wp2_with fail
          go_ret
          rw [hR.out]
          exact ⟨rfl, hbw1⟩
end Go.Proofs.YtipnglidepfkbaaDoor
