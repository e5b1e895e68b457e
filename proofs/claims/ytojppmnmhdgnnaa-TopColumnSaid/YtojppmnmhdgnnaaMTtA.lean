/- The walk of TopColumn. (Printed by gen_tta.py.) -/
import Derived.Test.YtojppmnmhdgnnaaMTlEP
import Derived.Test.YtojppmnmhdgnnaaMLwBu
import Derived.Test.YtojppmnmhdgnnaaMStSt
namespace Go.Proofs.Ytojppmnmhdgnnaa
set_option linter.unusedVariables false
set_option linter.unusedSimpArgs false
open Go.RowKit

attribute [local go_sem ↓] Go.wp_at_zero Go.wp_at_succ

set_option maxHeartbeats 32000000 in
set_option maxRecDepth 100000 in
theorem topcolumn_walk (l : RowM) (n c : Nat) (A : Option Addr) (hv wh av bv : Nat) (w : World) (hl : l.length = n) (hr : Rd w A (rcells l)) (hok : ∀ v ∈ l, v.ok) (hnc : n ≤ c) (hc : c ≤ 9223372036854775807) (hhv : hv < 256) (hwh : wh < 256) (hav : av < 65536) (hbv : bv < 4294967296) :
    Calls Try.prog 3 #[.slice A n c, .int .u8 (hv : Int), .int .u8 (wh : Int), .int .u16 (av : Int), .int .u32 (bv : Int)] w fun e w' => e = .returned (.bool true) ∧ Below w.heap.size w w' := by
  have Hl := Lib.hid hl
  have Hok := Lib.hid hok
  clear hl hok
  go_enter Try.func3, Try.ntmps3
  go_wp2_with fail
  refine (new_yes 4096 w (by omega)).mono ?_
  rintro e w2 ⟨bs, rfl, hs2, hb2⟩
  have Hz2 := Lib.hid hb2.size
  have Hs2 := Lib.hid (sto_base hs2 (Nat.le_refl _))
  have Hr2 := Lib.hid ((Rs.of_old (T := [30]) hr).keeps (Keeps.of_below hb2))
  have Hb2 := Lib.hid hb2
  clear hs2 hb2 hr
  generalize hs0 : (List.replicate 4096 none : Pg.St) = s0 at *
  have H4 : Hid (s0.length = 4096 ∧ Pg.used s0 = 0) := by rw [← hs0]; exact ⟨by simp, by kernel_rfl⟩
  clear hs0
  go_wp2_with fail
  go_loopw [13, 14, 46] (fun k x i wr => ∃ (j : Nat) (K : Int) (X : RowM) (A1 : Option Addr) (c1 : Nat), j ≤ n ∧ i = .int .i64 (j : Int) ∧ k = .int .u8 K ∧ x = .slice A1 X.length c1 ∧ Hid (TopX K X j) ∧ Hid (Own wr w.heap.size 30 3 A1 X.length c1 (rcells X)) ∧ Hid (Keeps [30] w.heap.size w2 wr)) (fun _ _ i _ => n - (intOf i).toNat)
  case atStart => exact ⟨0, 2, [], none, 0, by omega, by go_num, rfl, rfl, ⟨by omega, rfl, fun v h => (by cases h), by simp, by simp⟩, Own.nil _ _ _ _, Keeps.refl _ _ _⟩
  case round =>
    obtain ⟨j, K, X, A1, c1, hj, rfl, rfl, rfl, Ht, Ho, Hk⟩ := hrel
    by_cases hlt : j < n
    · have hjl : j < l.length := by rw [Hl.out]; exact hlt
      have hjI : (j : Int) < (n : Int) := by omega
      obtain ⟨b, o, rfl, c0, c1', c2⟩ := row_cells (Hr2.out.keeps Hk.out).rd hjl
      have Hvok := Lib.hid (Hok.out _ (List.getElem_mem hjl))
      generalize l[j] = v at *
      obtain ⟨vk, vn, vs⟩ := v
      dsimp only at c0 c1' c2
      have hbx := Blk.new wr 30 #[.int .u8 vk, .int .i64 vn, .string (St8 vs)]
      have hbA : Below wr.heap.size wr (wr.alloc (.cells #[.int .u8 vk, .int .i64 vn, .string (St8 vs)] 30)) := (Below.refl _ _).alloc (Nat.le_refl _) _
      have Hcu0 := Lib.hid hbx
      have Hou0 := Lib.hid (Own.below Ho.out hbA)
      have Hku0 := Lib.hid (Hk.out.then_below hbA)
      have k0 := hbx.cell 0
      have k1 := hbx.cell 1
      have k2 := hbx.cell 2
      simp only [List.getElem?_cons_zero, List.getElem?_cons_succ] at k0 k1 k2
      have Hcr := Lib.hid (fun u => cright_any ⟨vk, vn, vs⟩ u)
      unfold Va.agg at Hcr
      dsimp only at Hcr
      clear hbA hbx Ho Hk hjl
      generalize hW : wr.alloc (.cells #[.int .u8 vk, .int .i64 vn, .string (St8 vs)] 30) = u0 at *
      generalize hV : wr.heap.size = V at *
      by_cases hj0 : j = 0
      · subst hj0
        simp only [Nat.zero_mul, Nat.add_zero] at c0 c1' c2
        have hjh : 0 < 100 := by omega
        have hjI0 : ((0 : Nat) : Int) < 100 := by omega
        cases hrv : rightV ⟨vk, vn, vs⟩
        · rw [hrv] at Hcr
          clear hrv
          go_wp2_with fail
          refine (Hcr.out u0).mono ?_
          rintro e u1 ⟨rfl, hbu⟩
          have Hcu1 := Lib.hid (Hcu0.out.below hbu)
          have Hou1 := Lib.hid (Own.below Hou0.out hbu)
          have Hku1 := Lib.hid (Hku0.out.then_below hbu)
          clear hbu Hcu0 Hou0 Hku0
          clear k0 k1 k2
          have k0 := Hcu1.out.cell 0
          have k1 := Hcu1.out.cell 1
          have k2 := Hcu1.out.cell 2
          simp only [List.getElem?_cons_zero, List.getElem?_cons_succ] at k0 k1 k2
          go_wp2_with fail
          refine (Hcr.out u1).mono ?_
          rintro e u9 ⟨rfl, hbu⟩
          have Hcu9 := Lib.hid (Hcu1.out.below hbu)
          have Hou9 := Lib.hid (Own.below Hou1.out hbu)
          have Hku9 := Lib.hid (Hku1.out.then_below hbu)
          clear hbu Hcu1 Hou1 Hku1
          clear k0 k1 k2
          go_wp2_with fail
          go_roundw
          case rel => exact ⟨0 + 1, K, X, A1, c1, by omega, by go_num, rfl, rfl, Ht.out.skip, Hou9.out, Hku9.out⟩
          case measure => simp [intOf]; omega
        · have Hrv := Lib.hid hrv
          rw [hrv] at Hcr
          by_cases hv0 : vk = 0
          · have Hv0 := Lib.hid hv0
            have e0 : (vk != 0) = false := by rw [hv0]; rfl
            clear hrv hv0
            go_wp2_with fail
            refine (Hcr.out u0).mono ?_
            rintro e u1 ⟨rfl, hbu⟩
            have Hcu1 := Lib.hid (Hcu0.out.below hbu)
            have Hou1 := Lib.hid (Own.below Hou0.out hbu)
            have Hku1 := Lib.hid (Hku0.out.then_below hbu)
            clear hbu Hcu0 Hou0 Hku0
            clear k0 k1 k2
            have k0 := Hcu1.out.cell 0
            have k1 := Hcu1.out.cell 1
            have k2 := Hcu1.out.cell 2
            simp only [List.getElem?_cons_zero, List.getElem?_cons_succ] at k0 k1 k2
            have hsz := St8_size vs
            by_cases hs1 : vs.length ≤ 100
            · have hsI : (vs.length : Int) ≤ 100 := by omega
              have e1 : (vk == K) = false := by rw [beq_eq_false_iff_ne, Hv0.out]; have := Ht.out.kind; omega
              have e2 : (vk == 0) = true := by rw [beq_iff_eq]; exact Hv0.out
              go_wp2_with fail
              refine (Hcr.out u1).mono ?_
              rintro e u9 ⟨rfl, hbu⟩
              have Hcu9 := Lib.hid (Hcu1.out.below hbu)
              have Hou9 := Lib.hid (Own.below Hou1.out hbu)
              have Hku9 := Lib.hid (Hku1.out.then_below hbu)
              clear hbu Hcu1 Hou1 Hku1
              clear k0 k1 k2
              have k0 := Hcu9.out.cell 0
              have k1 := Hcu9.out.cell 1
              have k2 := Hcu9.out.cell 2
              simp only [List.getElem?_cons_zero, List.getElem?_cons_succ] at k0 k1 k2
              have HKV : (⟨vk, vn, vs⟩ : Va).k = K ∨ (⟨vk, vn, vs⟩ : Va).k = 0 := .inr Hv0.out
              have hbB : Below u9.heap.size u9 (u9.alloc (.cells #[.int .u8 vk, .int .i64 vn, .string (St8 vs)] 30)) := (Below.refl _ _).alloc (Nat.le_refl _) _
              have hn6 := Lib.hid (Blk.new u9 30 #[.int .u8 vk, .int .i64 vn, .string (St8 vs)]).range
              have hown6 := Lib.hid (Own.below Hou9.out hbB)
              have hk6 := Lib.hid (Hku9.out.then_below hbB)
              have hmore := Lib.hid (Ht.out.more (v := ⟨vk, vn, vs⟩) hjh Hrv.out HKV Hvok.out)
              have hlen := Ht.out.h
              obtain ⟨q, hq⟩ : ∃ q, X.length = q := ⟨_, rfl⟩
              have Hq := Lib.hid hq
              rw [hq] at hown6 hlen
              rw [hq]
              have hlo : w.heap.size ≤ (u9.alloc (.cells #[.int .u8 vk, .int .i64 vn, .string (St8 vs)] 30)).heap.size := Nat.le_trans Hz2.out hk6.out.size
              clear hbB hq HKV
              go_wp2_with (first | (at_builtin; refine hold ?_) | (at_make; refine hold ?_))
              (with_reducible refine unhold ?_)
              refine wpList_apd rfl _ _ _ rfl EvalC w.heap.size _ q c1 _ rfl hown6.out _ 1 _ [.int .u8 vk, .int .i64 vn, .string (St8 vs)] rfl rfl (fun _ => ⟨_, _, rfl, hn6.out⟩) (by simp [Value.oneCell']) (q + 1) rfl (rcells (X ++ [⟨vk, vn, vs⟩])) (by rw [rcells_append]; rfl) (by omega) (by omega) hlo ?_
              intro A7 c7 w7 ho7 hg7 _
              have hk7 := Lib.hid (hk6.out.trans (hown6.out.apd_keeps hg7))
              have hl7 : Hid ((X ++ [(⟨vk, vn, vs⟩ : Va)]).length = q + 1) := by show _ = _; rw [List.length_append, Hq.out]; rfl
              clear hg7 hown6 hn6 hk6 k0 k1 k2
              go_wp2_with fail
              go_roundw
              case rel => exact ⟨0 + 1, K, X ++ [⟨vk, vn, vs⟩], A7, c7, by omega, by go_num, rfl, by rw [hl7.out], hmore, by rw [hl7.out]; exact ho7, hk7⟩
              case measure => simp [intOf]; omega
            · have hsI : ¬ (vs.length : Int) ≤ 100 := by omega
              have hsD : decide ((vs.length : Int) ≤ 100) = false := decide_eq_false hsI
              have hsE : decide (vs.length ≤ 100) = false := decide_eq_false hs1
              go_wp2_with fail
              refine (Hcr.out u1).mono ?_
              rintro e u9 ⟨rfl, hbu⟩
              have Hcu9 := Lib.hid (Hcu1.out.below hbu)
              have Hou9 := Lib.hid (Own.below Hou1.out hbu)
              have Hku9 := Lib.hid (Hku1.out.then_below hbu)
              clear hbu Hcu1 Hou1 Hku1
              clear k0 k1 k2
              have k0 := Hcu9.out.cell 0
              have k1 := Hcu9.out.cell 1
              have k2 := Hcu9.out.cell 2
              simp only [List.getElem?_cons_zero, List.getElem?_cons_succ] at k0 k1 k2
              go_wp2_with fail
              go_roundw
              case rel => exact ⟨0 + 1, K, X, A1, c1, by omega, by go_num, rfl, rfl, Ht.out.skip, Hou9.out, Hku9.out⟩
              case measure => simp [intOf]; omega
          · have Ht := Lib.hid (Ht.out.first (v := ⟨vk, vn, vs⟩) hrv hv0)
            have e0 : (vk != 0) = true := by rw [bne_iff_ne]; exact hv0
            dsimp only at Ht
            clear hrv hv0
            go_wp2_with fail
            refine (Hcr.out u0).mono ?_
            rintro e u1 ⟨rfl, hbu⟩
            have Hcu1 := Lib.hid (Hcu0.out.below hbu)
            have Hou1 := Lib.hid (Own.below Hou0.out hbu)
            have Hku1 := Lib.hid (Hku0.out.then_below hbu)
            clear hbu Hcu0 Hou0 Hku0
            clear k0 k1 k2
            have k0 := Hcu1.out.cell 0
            have k1 := Hcu1.out.cell 1
            have k2 := Hcu1.out.cell 2
            simp only [List.getElem?_cons_zero, List.getElem?_cons_succ] at k0 k1 k2
            have hsz := St8_size vs
            by_cases hs1 : vs.length ≤ 100
            · have hsI : (vs.length : Int) ≤ 100 := by omega
              have e1 : (vk == vk) = true := by simp
              go_wp2_with fail
              refine (Hcr.out u1).mono ?_
              rintro e u9 ⟨rfl, hbu⟩
              have Hcu9 := Lib.hid (Hcu1.out.below hbu)
              have Hou9 := Lib.hid (Own.below Hou1.out hbu)
              have Hku9 := Lib.hid (Hku1.out.then_below hbu)
              clear hbu Hcu1 Hou1 Hku1
              clear k0 k1 k2
              have k0 := Hcu9.out.cell 0
              have k1 := Hcu9.out.cell 1
              have k2 := Hcu9.out.cell 2
              simp only [List.getElem?_cons_zero, List.getElem?_cons_succ] at k0 k1 k2
              have HKV : (⟨vk, vn, vs⟩ : Va).k = vk ∨ (⟨vk, vn, vs⟩ : Va).k = 0 := .inl rfl
              have hbB : Below u9.heap.size u9 (u9.alloc (.cells #[.int .u8 vk, .int .i64 vn, .string (St8 vs)] 30)) := (Below.refl _ _).alloc (Nat.le_refl _) _
              have hn6 := Lib.hid (Blk.new u9 30 #[.int .u8 vk, .int .i64 vn, .string (St8 vs)]).range
              have hown6 := Lib.hid (Own.below Hou9.out hbB)
              have hk6 := Lib.hid (Hku9.out.then_below hbB)
              have hmore := Lib.hid (Ht.out.more (v := ⟨vk, vn, vs⟩) hjh Hrv.out HKV Hvok.out)
              have hlen := Ht.out.h
              obtain ⟨q, hq⟩ : ∃ q, X.length = q := ⟨_, rfl⟩
              have Hq := Lib.hid hq
              rw [hq] at hown6 hlen
              rw [hq]
              have hlo : w.heap.size ≤ (u9.alloc (.cells #[.int .u8 vk, .int .i64 vn, .string (St8 vs)] 30)).heap.size := Nat.le_trans Hz2.out hk6.out.size
              clear hbB hq HKV
              go_wp2_with (first | (at_builtin; refine hold ?_) | (at_make; refine hold ?_))
              (with_reducible refine unhold ?_)
              refine wpList_apd rfl _ _ _ rfl EvalC w.heap.size _ q c1 _ rfl hown6.out _ 1 _ [.int .u8 vk, .int .i64 vn, .string (St8 vs)] rfl rfl (fun _ => ⟨_, _, rfl, hn6.out⟩) (by simp [Value.oneCell']) (q + 1) rfl (rcells (X ++ [⟨vk, vn, vs⟩])) (by rw [rcells_append]; rfl) (by omega) (by omega) hlo ?_
              intro A7 c7 w7 ho7 hg7 _
              have hk7 := Lib.hid (hk6.out.trans (hown6.out.apd_keeps hg7))
              have hl7 : Hid ((X ++ [(⟨vk, vn, vs⟩ : Va)]).length = q + 1) := by show _ = _; rw [List.length_append, Hq.out]; rfl
              clear hg7 hown6 hn6 hk6 k0 k1 k2
              go_wp2_with fail
              go_roundw
              case rel => exact ⟨0 + 1, vk, X ++ [⟨vk, vn, vs⟩], A7, c7, by omega, by go_num, rfl, by rw [hl7.out], hmore, by rw [hl7.out]; exact ho7, hk7⟩
              case measure => simp [intOf]; omega
            · have hsI : ¬ (vs.length : Int) ≤ 100 := by omega
              have hsD : decide ((vs.length : Int) ≤ 100) = false := decide_eq_false hsI
              have hsE : decide (vs.length ≤ 100) = false := decide_eq_false hs1
              go_wp2_with fail
              refine (Hcr.out u1).mono ?_
              rintro e u9 ⟨rfl, hbu⟩
              have Hcu9 := Lib.hid (Hcu1.out.below hbu)
              have Hou9 := Lib.hid (Own.below Hou1.out hbu)
              have Hku9 := Lib.hid (Hku1.out.then_below hbu)
              clear hbu Hcu1 Hou1 Hku1
              clear k0 k1 k2
              have k0 := Hcu9.out.cell 0
              have k1 := Hcu9.out.cell 1
              have k2 := Hcu9.out.cell 2
              simp only [List.getElem?_cons_zero, List.getElem?_cons_succ] at k0 k1 k2
              go_wp2_with fail
              go_roundw
              case rel => exact ⟨0 + 1, vk, X, A1, c1, by omega, by go_num, rfl, rfl, Ht.out.skip, Hou9.out, Hku9.out⟩
              case measure => simp [intOf]; omega
      · have hj0I : ((j : Int) == 0) = false := by rw [beq_eq_false_iff_ne]; omega
        by_cases hjh : j < 100
        · have hjI0 : (j : Int) < 100 := by omega
          cases hrv : rightV ⟨vk, vn, vs⟩
          · rw [hrv] at Hcr
            clear hrv
            go_wp2_with fail
            refine (Hcr.out u0).mono ?_
            rintro e u9 ⟨rfl, hbu⟩
            have Hcu9 := Lib.hid (Hcu0.out.below hbu)
            have Hou9 := Lib.hid (Own.below Hou0.out hbu)
            have Hku9 := Lib.hid (Hku0.out.then_below hbu)
            clear hbu Hcu0 Hou0 Hku0
            clear k0 k1 k2
            go_wp2_with fail
            go_roundw
            case rel => exact ⟨j + 1, K, X, A1, c1, by omega, by go_num, rfl, rfl, Ht.out.skip, Hou9.out, Hku9.out⟩
            case measure => simp [intOf]; omega
          · have Hrv := Lib.hid hrv
            rw [hrv] at Hcr
            clear hrv
            have hsz := St8_size vs
            by_cases hs1 : vs.length ≤ 100
            · have hsI : (vs.length : Int) ≤ 100 := by omega
              by_cases hk1 : vk = K
              · subst hk1
                have e1 : (vk == vk) = true := by simp
                go_wp2_with fail
                refine (Hcr.out u0).mono ?_
                rintro e u9 ⟨rfl, hbu⟩
                have Hcu9 := Lib.hid (Hcu0.out.below hbu)
                have Hou9 := Lib.hid (Own.below Hou0.out hbu)
                have Hku9 := Lib.hid (Hku0.out.then_below hbu)
                clear hbu Hcu0 Hou0 Hku0
                clear k0 k1 k2
                have k0 := Hcu9.out.cell 0
                have k1 := Hcu9.out.cell 1
                have k2 := Hcu9.out.cell 2
                simp only [List.getElem?_cons_zero, List.getElem?_cons_succ] at k0 k1 k2
                have HKV : (⟨vk, vn, vs⟩ : Va).k = vk ∨ (⟨vk, vn, vs⟩ : Va).k = 0 := .inl rfl
                have hbB : Below u9.heap.size u9 (u9.alloc (.cells #[.int .u8 vk, .int .i64 vn, .string (St8 vs)] 30)) := (Below.refl _ _).alloc (Nat.le_refl _) _
                have hn6 := Lib.hid (Blk.new u9 30 #[.int .u8 vk, .int .i64 vn, .string (St8 vs)]).range
                have hown6 := Lib.hid (Own.below Hou9.out hbB)
                have hk6 := Lib.hid (Hku9.out.then_below hbB)
                have hmore := Lib.hid (Ht.out.more (v := ⟨vk, vn, vs⟩) hjh Hrv.out HKV Hvok.out)
                have hlen := Ht.out.h
                obtain ⟨q, hq⟩ : ∃ q, X.length = q := ⟨_, rfl⟩
                have Hq := Lib.hid hq
                rw [hq] at hown6 hlen
                rw [hq]
                have hlo : w.heap.size ≤ (u9.alloc (.cells #[.int .u8 vk, .int .i64 vn, .string (St8 vs)] 30)).heap.size := Nat.le_trans Hz2.out hk6.out.size
                clear hbB hq HKV
                go_wp2_with (first | (at_builtin; refine hold ?_) | (at_make; refine hold ?_))
                (with_reducible refine unhold ?_)
                refine wpList_apd rfl _ _ _ rfl EvalC w.heap.size _ q c1 _ rfl hown6.out _ 1 _ [.int .u8 vk, .int .i64 vn, .string (St8 vs)] rfl rfl (fun _ => ⟨_, _, rfl, hn6.out⟩) (by simp [Value.oneCell']) (q + 1) rfl (rcells (X ++ [⟨vk, vn, vs⟩])) (by rw [rcells_append]; rfl) (by omega) (by omega) hlo ?_
                intro A7 c7 w7 ho7 hg7 _
                have hk7 := Lib.hid (hk6.out.trans (hown6.out.apd_keeps hg7))
                have hl7 : Hid ((X ++ [(⟨vk, vn, vs⟩ : Va)]).length = q + 1) := by show _ = _; rw [List.length_append, Hq.out]; rfl
                clear hg7 hown6 hn6 hk6 k0 k1 k2
                go_wp2_with fail
                go_roundw
                case rel => exact ⟨j + 1, vk, X ++ [⟨vk, vn, vs⟩], A7, c7, by omega, by go_num, rfl, by rw [hl7.out], hmore, by rw [hl7.out]; exact ho7, hk7⟩
                case measure => simp [intOf]; omega
              · have e1 : (vk == K) = false := by rw [beq_eq_false_iff_ne]; exact hk1
                by_cases hk2 : vk = 0
                · subst hk2
                  have e2 : ((0 : Int) == 0) = true := rfl
                  clear hk1
                  go_wp2_with fail
                  refine (Hcr.out u0).mono ?_
                  rintro e u9 ⟨rfl, hbu⟩
                  have Hcu9 := Lib.hid (Hcu0.out.below hbu)
                  have Hou9 := Lib.hid (Own.below Hou0.out hbu)
                  have Hku9 := Lib.hid (Hku0.out.then_below hbu)
                  clear hbu Hcu0 Hou0 Hku0
                  clear k0 k1 k2
                  have k0 := Hcu9.out.cell 0
                  have k1 := Hcu9.out.cell 1
                  have k2 := Hcu9.out.cell 2
                  simp only [List.getElem?_cons_zero, List.getElem?_cons_succ] at k0 k1 k2
                  have HKV : (⟨0, vn, vs⟩ : Va).k = K ∨ (⟨0, vn, vs⟩ : Va).k = 0 := .inr rfl
                  have hbB : Below u9.heap.size u9 (u9.alloc (.cells #[.int .u8 0, .int .i64 vn, .string (St8 vs)] 30)) := (Below.refl _ _).alloc (Nat.le_refl _) _
                  have hn6 := Lib.hid (Blk.new u9 30 #[.int .u8 0, .int .i64 vn, .string (St8 vs)]).range
                  have hown6 := Lib.hid (Own.below Hou9.out hbB)
                  have hk6 := Lib.hid (Hku9.out.then_below hbB)
                  have hmore := Lib.hid (Ht.out.more (v := ⟨0, vn, vs⟩) hjh Hrv.out HKV Hvok.out)
                  have hlen := Ht.out.h
                  obtain ⟨q, hq⟩ : ∃ q, X.length = q := ⟨_, rfl⟩
                  have Hq := Lib.hid hq
                  rw [hq] at hown6 hlen
                  rw [hq]
                  have hlo : w.heap.size ≤ (u9.alloc (.cells #[.int .u8 0, .int .i64 vn, .string (St8 vs)] 30)).heap.size := Nat.le_trans Hz2.out hk6.out.size
                  clear hbB hq HKV
                  go_wp2_with (first | (at_builtin; refine hold ?_) | (at_make; refine hold ?_))
                  (with_reducible refine unhold ?_)
                  refine wpList_apd rfl _ _ _ rfl EvalC w.heap.size _ q c1 _ rfl hown6.out _ 1 _ [.int .u8 0, .int .i64 vn, .string (St8 vs)] rfl rfl (fun _ => ⟨_, _, rfl, hn6.out⟩) (by simp [Value.oneCell']) (q + 1) rfl (rcells (X ++ [⟨0, vn, vs⟩])) (by rw [rcells_append]; rfl) (by omega) (by omega) hlo ?_
                  intro A7 c7 w7 ho7 hg7 _
                  have hk7 := Lib.hid (hk6.out.trans (hown6.out.apd_keeps hg7))
                  have hl7 : Hid ((X ++ [(⟨0, vn, vs⟩ : Va)]).length = q + 1) := by show _ = _; rw [List.length_append, Hq.out]; rfl
                  clear hg7 hown6 hn6 hk6 k0 k1 k2
                  go_wp2_with fail
                  go_roundw
                  case rel => exact ⟨j + 1, K, X ++ [⟨0, vn, vs⟩], A7, c7, by omega, by go_num, rfl, by rw [hl7.out], hmore, by rw [hl7.out]; exact ho7, hk7⟩
                  case measure => simp [intOf]; omega
                · have e2 : (vk == 0) = false := by rw [beq_eq_false_iff_ne]; exact hk2
                  clear hk1 hk2
                  go_wp2_with fail
                  refine (Hcr.out u0).mono ?_
                  rintro e u9 ⟨rfl, hbu⟩
                  have Hcu9 := Lib.hid (Hcu0.out.below hbu)
                  have Hou9 := Lib.hid (Own.below Hou0.out hbu)
                  have Hku9 := Lib.hid (Hku0.out.then_below hbu)
                  clear hbu Hcu0 Hou0 Hku0
                  clear k0 k1 k2
                  have k0 := Hcu9.out.cell 0
                  have k1 := Hcu9.out.cell 1
                  have k2 := Hcu9.out.cell 2
                  simp only [List.getElem?_cons_zero, List.getElem?_cons_succ] at k0 k1 k2
                  go_wp2_with fail
                  go_roundw
                  case rel => exact ⟨j + 1, K, X, A1, c1, by omega, by go_num, rfl, rfl, Ht.out.skip, Hou9.out, Hku9.out⟩
                  case measure => simp [intOf]; omega
            · have hsI : ¬ (vs.length : Int) ≤ 100 := by omega
              have hsD : decide ((vs.length : Int) ≤ 100) = false := decide_eq_false hsI
              have hsE : decide (vs.length ≤ 100) = false := decide_eq_false hs1
              go_wp2_with fail
              refine (Hcr.out u0).mono ?_
              rintro e u9 ⟨rfl, hbu⟩
              have Hcu9 := Lib.hid (Hcu0.out.below hbu)
              have Hou9 := Lib.hid (Own.below Hou0.out hbu)
              have Hku9 := Lib.hid (Hku0.out.then_below hbu)
              clear hbu Hcu0 Hou0 Hku0
              clear k0 k1 k2
              have k0 := Hcu9.out.cell 0
              have k1 := Hcu9.out.cell 1
              have k2 := Hcu9.out.cell 2
              simp only [List.getElem?_cons_zero, List.getElem?_cons_succ] at k0 k1 k2
              go_wp2_with fail
              go_roundw
              case rel => exact ⟨j + 1, K, X, A1, c1, by omega, by go_num, rfl, rfl, Ht.out.skip, Hou9.out, Hku9.out⟩
              case measure => simp [intOf]; omega
        · have hjI0 : ¬ (j : Int) < 100 := by omega
          clear Hcr
          go_wp2_with fail
          go_roundw
          case rel => exact ⟨j + 1, K, X, A1, c1, by omega, by go_num, rfl, rfl, Ht.out.skip, Hou0.out, Hku0.out⟩
          case measure => simp [intOf]; omega
    · obtain rfl : j = n := by omega
      have Hs3 := Lib.hid (Hs2.out.keeps Hk.out (by decide))
      have Hb3 := Lib.hid (Hb2.out.trans (Hk.out.below Hz2.out))
      have Hz3 := Lib.hid Hb3.out.size
      obtain ⟨q, hq⟩ : ∃ q, X.length = q := ⟨_, rfl⟩
      have Hq := Lib.hid hq
      have hq1 := Ht.out.h
      rw [hq] at Ho hq1
      obtain ⟨h, hh⟩ : ∃ h : Nat, (hv : Int) % 5 + 1 = (h : Int) := ⟨hv % 5 + 1, by omega⟩
      have hh5 : 1 ≤ h ∧ h ≤ 5 := by omega
      have hhw : IntKind.u8.wrap ((hv : Int) % 5 + 1) = (h : Int) := by rw [IntKind.wrap_u8]; omega
      have hK := Ht.out.kind
      have hk1 : kindOk K = true := decide_eq_true hK
      have hh1 : howOk (h : Int) = true := decide_eq_true (by omega)
      have hput := cput_good (how := (h : Int)) hk1 hh1 Ht.out.all_
      have hL := colB_100 (how := (h : Int)) Ht.out.all_ Ht.out.ok Ht.out.h
      have hpu := (cputc_any K (h : Int) X q c1 A1 wr hq Ho.out.rd (by omega) Ht.out.ok (by omega) (by omega)).mono fun _ _ h => CPutOK.uniB h hput rfl
      have htp := Lib.hid (fun (w1 w2 : World) (e : Ending) (h3 : CTakeOK K (colB K (h : Int) X).1 w1 e w2) => ctake_put hk1 hh1 Ht.out.all_ Ht.out.ok (by omega) h3)
      rw [hq] at htp
      rw [hq]
      obtain ⟨L, hLL⟩ : ∃ L, (colB K (h : Int) X).1.length = L := ⟨_, rfl⟩
      rw [hLL] at hpu hL
      have HL := Lib.hid hLL
      have Hpu := Lib.hid hpu
      clear hpu hput hk1 hh1 hLL hq
      generalize (colB K (h : Int) X).2 = U at *
      generalize (colB K (h : Int) X).1 = BB at *
      have hneed : Pg.need L ≤ 4096 ∧ 1 ≤ Pg.need L := by unfold Pg.need; split <;> omega
      have hphold := Lib.hid (Pg.put_holds (s := s0) (b := BB) (by rw [HL.out, H4.out.1, H4.out.2]; omega))
      have gU : (U != U) = false := by simp
      have gQ : ((q : Int) != (q : Int)) = false := by simp
      go_wp2_with fail
      try rw [hhw]
      clear hhw hh
      refine Hpu.out.mono ?_
      rintro e w4 ⟨⟨A4, c4, rfl, ho4⟩, hb4⟩
      have hcap4 := ho4.cap
      unfold maxLen at hcap4
      have Hs4 := Lib.hid (Hs3.out.below hb4)
      have Hx4 := Lib.hid (Own.below Ho.out hb4)
      have Ho4 := Lib.hid (Own.lower ho4 Hz3.out)
      have Hb4 := Lib.hid (Hb3.out.trans (hb4.mono Hz3.out))
      have Hz4 := Lib.hid Hb4.out.size
      clear hb4 ho4 Hpu Hs3 Ho Hs2 Hk Hb2 Hb3 Hz2 Hr2
      go_wp2_with fail
      refine (put_c w.heap.size bs s0 A4 BB L c4 w4 Hs4.out HL.out (by omega) hcap4.1 (by omega) (Rs.of_own Ho4.out (by decide)) Hz4.out).mono ?_
      rintro e w5 ⟨A5, c5, rfl, ho5, hs5, hk5⟩
      have hlen := hphold.out.2.1.len
      rw [HL.out] at hlen
      have hpE := hphold.out.1
      generalize hPE : Pg.putE s0 BB = PE at *
      subst hpE
      have hHolds := Lib.hid hphold.out.2.1
      have hNod := Lib.hid hphold.out.2.2.1
      have hIn := Lib.hid hphold.out.2.2.2
      generalize Pg.putS s0 BB = s1 at *
      generalize Pg.putL s0 BB = I at *
      obtain ⟨M, hMe⟩ : ∃ M, Pg.need L = M := ⟨_, rfl⟩
      rw [hMe] at hlen hneed
      have hI := Lib.hid hlen
      rw [hlen] at ho5 ⊢
      have Hs5 := Lib.hid hs5
      have Ho45 := Lib.hid (Own.keeps Ho4.out (by decide) hk5)
      have Hx5 := Lib.hid (Own.keeps Hx4.out (by decide) hk5)
      have Hb5 := Lib.hid (Hb4.out.trans (hk5.below Hz4.out))
      have Hz5 := Lib.hid Hb5.out.size
      have Ho5 := Lib.hid (Own.lower ho5 Hz4.out)
      clear hlen hs5 hk5 ho5 hphold Hs4 Hx4 Ho4 Hb4 Hz4 hMe
      have hM0 : ((M : Int) == 0) = false := by rw [beq_eq_false_iff_ne]; omega
      have hbI : Hid (∀ i ∈ I.map Int.ofNat, -9223372036854775808 ≤ i ∧ i ≤ 9223372036854775807) := by
        intro i hi
        obtain ⟨j, hj, rfl⟩ := List.mem_map.1 hi
        have := (hIn.out j hj).1
        rw [H4.out.1] at this
        constructor
        · exact Int.le_trans (by decide) (Int.natCast_nonneg j)
        · show (j : Int) ≤ _
          omega
      have hIl : Hid ((I.map Int.ofNat).length = M) := by show _ = _; rw [List.length_map, hI.out]
      have hget := hHolds.out.get
      rw [HL.out] at hget
      go_wp2_with fail
      refine (get_cc w.heap.size bs s1 _ (I.map Int.ofNat) M c5 (L : Int) w5 Hs5.out hIl.out (by omega) (Rd.of_own_js Ho5.out) hbI.out (by omega) (by omega)).mono ?_
      rw [hget.1, hget.2, HL.out]
      rintro e w6 ⟨A6, rfl, hr6, hb6⟩
      have Hs6 := Lib.hid (Hs5.out.below hb6)
      have Ho46 := Lib.hid (Own.below Ho45.out hb6)
      have Ho6 := Lib.hid (Own.below Ho5.out hb6)
      have Hx6 := Lib.hid (Own.below Hx5.out hb6)
      have Hb6 := Lib.hid (Hb5.out.trans (hb6.mono Hz5.out))
      have Hz6 := Lib.hid Hb6.out.size
      have htk := Lib.hid (ctake_any K BB L L A6 w6 (by omega) HL.out hr6 (by omega) (Nat.le_refl _) (by omega))
      clear hget hr6 hb6 Hs5 Ho45 Ho5 Hx5 Hb5 Hz5
      go_wp2_with fail
      refine htk.out.mono ?_
      intro e w7 h7
      obtain ⟨⟨A7, c7, rfl, hr7⟩, hb7⟩ := htp.out _ _ _ h7
      have Hs7 := Lib.hid (Hs6.out.below hb7)
      have Ho47 := Lib.hid (Own.below Ho46.out hb7)
      have Ho7 := Lib.hid (Own.below Ho6.out hb7)
      have Hx7 := Lib.hid (Own.below Hx6.out hb7)
      have Hb7 := Lib.hid (Hb6.out.trans (hb7.mono Hz6.out))
      have Hy7 := Lib.hid hr7
      clear h7 hr7 hb7 htk htp Hs6 Ho46 Ho6 Hx6 Hb6 Hz6
      go_wp2_with fail
      go_loopw [156] (fun i wr => ∃ (k z : Nat), k ≤ q ∧ i = .int .i64 (k : Int) ∧ wr = w7.drewN z) (fun i _ => q - (intOf i).toNat)
      case atStart => exact ⟨0, 0, by omega, rfl, rfl⟩
      case round =>
        obtain ⟨k, z, hk, rfl, rfl⟩ := hrel
        by_cases hlt : k < q
        · have hkl : k < X.length := by rw [Hq.out]; exact hlt
          obtain ⟨b, o, rfl, c0, c1', c2⟩ := row_cells Hx7.out.rd hkl
          obtain ⟨b', o', rfl, d0, d1, d2⟩ := row_cells Hy7.out hkl
          generalize X[k] = x at *
          obtain ⟨k1, n1, s1'⟩ := x
          dsimp only at c0 c1' c2 d0 d1 d2
          have hkI : (0 : Int) ≤ (k : Int) := by omega
          have hkI' : (k : Int) < (q : Int) := by omega
          go_wp2_with fail
          go_quiet (fail)
          go_wp2_with fail
          go_roundw
          case rel => exact ⟨k + 1, _, by omega, by go_num, rfl⟩
          case measure => simp [intOf]; omega
        · obtain rfl : k = q := by omega
          have Hs8 := Lib.hid (Hs7.out.drewN z)
          have Ho48 := Lib.hid (Own.below Ho47.out (below_drewN' (Below.refl _ _) z))
          have Ho8 := Lib.hid (Own.below Ho7.out (below_drewN' (Below.refl _ _) z))
          have Hb8 := Lib.hid (below_drewN' Hb7.out z)
          clear Hs7 Ho47 Ho7 Hb7 Hx7 Hy7
          generalize w7.drewN z = w8 at *
          have Hz8 := Lib.hid Hb8.out.size
          obtain ⟨qq, hq', hqM⟩ : ∃ q : Nat, (wh : Int) % (M : Int) = (q : Int) ∧ q < M := ⟨wh % M, by omega, Nat.mod_lt _ (by omega)⟩
          obtain ⟨f, hf, hf5⟩ : ∃ f : Nat, (av : Int) % 512 = (f : Int) ∧ f < 512 := ⟨av % 512, by omega, by omega⟩
          obtain ⟨ga, oa, rfl, hga, _, hca⟩ := Ho8.out.rd.get (k := qq) (by rw [List.length_map, hI.out]; exact hqM)
          have hqI : qq < I.length := by rw [hI.out]; exact hqM
          rw [List.getElem_map] at hca
          have hidI := Lib.hid (List.getElem?_eq_getElem hqI)
          generalize I[qq] = id at *
          obtain ⟨P0, hP0⟩ : ∃ P0, P0 = Pg.page id ((BB.drop (56 * qq)).take 56) := ⟨_, rfl⟩
          have hat0 := hHolds.out.at_ qq id hidI.out
          rw [← hP0, Pg.at_nat] at hat0
          have hs1id : Hid (s1[id]? = some (some P0)) := by
            show _ = _
            cases e : s1[id]? with
            | none => rw [e] at hat0; cases hat0
            | some o => rw [e] at hat0; exact congrArg some hat0
          have hB0 : Hid (Burst P0 P0 f 0 0 false) := ⟨Crc.Win.zero 0, by rw [hP0, Crc.turnN_of_zero]; exact Crc.more_seal _, by rw [hP0]; exact Pg.length_page _ (by rw [List.length_take]; omega), fun h => (by cases h), fun _ => rfl⟩
          have hss : Hid (s1.set id (some P0) = s1) := by
            show _ = _
            apply List.ext_getElem?
            intro j
            rw [List.getElem?_set]
            split
            · rename_i e; subst e
              rw [hs1id.out, if_pos (List.getElem?_eq_some_iff.1 hs1id.out).1]
            · rfl
          clear hP0 hat0
          have hid60 : id < 4096 := by
            have := (hIn.out id (List.mem_of_getElem? hidI.out)).1
            rwa [H4.out.1] at this
          have h0q : (0 : Int) ≤ (qq : Int) := by omega
          have hqMI : (qq : Int) < (M : Int) := by omega
          go_wp2_with fail
          try rw [hq']
          clear hq'
          go_loopw [28, 177] (fun t i wr => ∃ (k V : Nat) (L : List UInt8) (tb : Bool), k ≤ 32 ∧ i = .int .i64 k ∧ t = .bool tb ∧ Hid (Burst P0 L f k V tb) ∧ Sto wr w.heap.size bs (s1.set id (some L)) ∧ Keeps StT w.heap.size w8 wr) (fun _ i _ => 32 - (intOf i).toNat)
          case atStart => exact ⟨0, 0, P0, false, by omega, rfl, rfl, hB0.out, by rw [hss.out]; exact Hs8.out, Keeps.refl _ _ _⟩
          case round =>
            obtain ⟨k, V, Lp, tb, hk, rfl, rfl, hBu, hst, hkp⟩ := hrel
            by_cases hlt : k < 32
            · have hr8 : (f + k) % 8 < 8 := Nat.mod_lt _ (by omega)
              obtain ⟨m, hm, hm'⟩ : ∃ m : UInt8, (128 / 2 ^ ((f + k) % 8) : Int) = (m.toNat : Int) ∧ Hid (m.toNat = 2 ^ (7 - (f + k) % 8)) := by
                generalize (f + k) % 8 = r at *
                match r, hr8 with
                | 0, _ => exact ⟨128, rfl, rfl⟩
                | 1, _ => exact ⟨64, rfl, rfl⟩
                | 2, _ => exact ⟨32, rfl, rfl⟩
                | 3, _ => exact ⟨16, rfl, rfl⟩
                | 4, _ => exact ⟨8, rfl, rfl⟩
                | 5, _ => exact ⟨4, rfl, rfl⟩
                | 6, _ => exact ⟨2, rfl, rfl⟩
                | 7, _ => exact ⟨1, rfl, rfl⟩
              have Hm := Lib.hid hm
              clear hm hr8
              go_wp2_with fail
              · rw [Hm.out]
                refine (flip_c w.heap.size bs _ (id : Int) _ m wr hst (by omega) (by omega)).mono ?_
                rintro e w5 ⟨rfl, hs5, hk5⟩
                have hfl : Hid (Pg.flipS (s1.set id (some Lp)) (id : Int) (((f : Int) + k) / 8) m = s1.set id (some (Pg.flip Lp ((f + k) / 8) m))) := by
                  show _ = _
                  unfold Pg.flipS
                  rw [Pg.at_nat, List.getElem?_set_self (List.getElem?_eq_some_iff.1 hs1id.out).1]
                  show (if 0 ≤ ((f : Int) + k) / 8 ∧ ((f : Int) + k) / 8 < 64 then _ else _) = _
                  rw [if_pos (by omega), Int.toNat_natCast, List.set_set, show (((f : Int) + k) / 8).toNat = (f + k) / 8 from by omega]
                have hBu' : Hid (Burst P0 (Pg.flip Lp ((f + k) / 8) m) f (k + 1) (V ^^^ 2 ^ (31 - k)) true) := by
                  have ht := Crc.Win.take hBu.out.win hlt
                  refine ⟨ht.1, ?_, by unfold Pg.flip; rw [List.length_set]; exact hBu.out.len, fun _ => ht.2, fun h => by cases h⟩
                  unfold Pg.flip
                  rw [Crc.more_bit Lp hBu.out.len m ((f + k) / 8) ((f + k) % 8) f k hlt (by omega) (by omega) (by omega) hm'.out, hBu.out.more, ← Crc.turnN_xor _ hBu.out.win.lt]
                  exact Nat.lt_of_le_of_lt (Nat.pow_le_pow_right (by omega) (show 31 - k ≤ 31 by omega)) (by omega)
                rw [hfl.out] at hs5
                go_wp2_with fail
                go_roundw
                case rel => exact ⟨k + 1, _, _, true, by omega, by go_num, rfl, hBu'.out, hs5, hkp.trans hk5⟩
                case measure => simp [intOf]; omega
              all_goals
                go_roundw
                case rel => exact ⟨k + 1, V, Lp, tb, by omega, by go_num, rfl, ⟨hBu.out.win.skip, hBu.out.more, hBu.out.len, hBu.out.on, hBu.out.off⟩, hst, hkp⟩
                case measure => simp [intOf]; omega
            · obtain rfl : k = 32 := by omega
              have ho5 := Own.keeps Ho8.out (by decide) hkp
              have hb05 := Hb8.out.trans (hkp.below Hz8.out)
              have hz5 := hb05.size
              have hrI := Rd.of_own_js ho5
              have ho35 := Own.keeps Ho48.out (by decide) hkp
              have hlt1 : id < s1.length := (List.getElem?_eq_some_iff.1 hs1id.out).1
              have hseq : (St8 BB == St8 BB) = true := by rw [St8_eq]; exact decide_eq_true rfl
              have hsel : ((St8 BB).toList == (St8 BB).toList) = true := by simp
              clear Hs8 Ho8 Ho48 hkp Hb8 Hz8
              cases tb with
              | false =>
                obtain rfl := hBu.out.off rfl
                rw [hss.out] at hst
                have hget := hHolds.out.get
                rw [HL.out] at hget
                go_wp2_with fail
                refine (get_cc w.heap.size bs s1 _ (I.map Int.ofNat) M c5 (L : Int) wr hst hIl.out (by omega) hrI hbI.out (by omega) (by omega)).mono ?_
                rw [hget.1, hget.2, HL.out]
                rintro e w9 ⟨A9, rfl, hr9, hb9⟩
                have hb09 := hb05.trans (hb9.mono hz5)
                have ho39 := Own.below ho35 hb9
                have hc1 := run_str w9 A9 BB L L HL.out hr9
                have hc2 := run_str w9 A4 BB L c4 HL.out ho39.rd
                clear hget hr9 hb9
                go_wp2_with fail
                go_ret
                exact ⟨rfl, hb09⟩
              | true =>
                have hok : Pg.okPage (id : Int) Lp = false := Pg.burst_told (hBu.out.on rfl) hBu.out.win hBu.out.more
                have hatL : Pg.at_ (s1.set id (some Lp)) (id : Int) = some Lp := by rw [Pg.at_nat, List.getElem?_set_self hlt1]; rfl
                have hrE : Hid (Pg.readE (s1.set id (some Lp)) (id : Int) = 6) := by show _ = _; unfold Pg.readE; rw [hatL]; simp [hok]
                have hgE : Hid (Pg.getE (s1.set id (some Lp)) (I.map Int.ofNat) (L : Int) = 6) := by
                  have hne : Pg.readE (s1.set id (some Lp)) (id : Int) ≠ 0 := by rw [hrE.out]; decide
                  have hqm : qq < (I.map Int.ofNat).length := by rw [hIl.out]; exact hqM
                  have hgq : (I.map Int.ofNat)[qq] = (id : Int) := by
                    have := hidI.out
                    rw [List.getElem?_eq_getElem (by rw [hI.out]; exact hqM)] at this
                    rw [List.getElem_map]
                    exact congrArg Int.ofNat (Option.some.inj this)
                  have h0 : Pg.getsE (s1.set id (some Lp)) ((I.map Int.ofNat).take qq) = 0 := by
                    refine Pg.getsE_all fun i hi => ?_
                    obtain ⟨j, hj, rfl⟩ := List.getElem_of_mem hi
                    rw [List.length_take] at hj
                    have hjq : j < qq := by omega
                    have hjI : j < I.length := by rw [hI.out]; omega
                    rw [List.getElem_take, List.getElem_map]
                    have hne2 : id ≠ I[j] := by
                      intro e
                      have h1 := hidI.out
                      rw [e, ← List.getElem?_eq_getElem hjI] at h1
                      have := (List.getElem?_inj (by rw [hI.out]; exact hqM) hNod.out).1 h1
                      omega
                    have h1 := hHolds.out.read (List.getElem?_eq_getElem hjI)
                    unfold Pg.readE at h1 ⊢
                    rw [show Int.ofNat I[j] = ((I[j] : Nat) : Int) from rfl, Pg.at_nat]
                    rw [Pg.at_nat] at h1
                    rw [List.getElem?_set_ne hne2]
                    exact h1
                  have h2 := Pg.getsE_take hqm h0 (by rw [hgq]; exact hne)
                  rw [hgq, hrE.out] at h2
                  show _ = _
                  have hl := hHolds.out.len
                  rw [HL.out] at hl
                  unfold Pg.getE
                  rw [if_neg (by rw [Pg.needI_nat, List.length_map, hl]; omega), h2]
                  rfl
                have hgB : Hid (Pg.getB (s1.set id (some Lp)) (I.map Int.ofNat) (L : Int) = []) := by show _ = _; unfold Pg.getB; rw [hgE.out]; rfl
                go_wp2_with fail
                refine (get_cc w.heap.size bs _ _ (I.map Int.ofNat) M c5 (L : Int) wr hst hIl.out (by omega) hrI hbI.out (by omega) (by omega)).mono ?_
                rw [hgE.out, hgB.out]
                rintro e w9 ⟨A9, rfl, hr9, hb9⟩
                have hb09 := hb05.trans (hb9.mono hz5)
                clear hr9 hb9
                go_wp2_with fail
                go_ret
                exact ⟨rfl, hb09⟩
end Go.Proofs.Ytojppmnmhdgnnaa
