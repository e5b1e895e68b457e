/- Walks: by which keys rows may be ordered: the reference's. (Printed by gen_rqo.py.) Walks: whether joins are a star or a chain: the reference's. (Printed by gen_rqs.py.) -/
import Derived.Test.YtheafcfbahdcfaaDoorMGrK
import Derived.Test.YtheafcfbahdcfaaDoorMGrW
namespace Go.Proofs.YtheafcfbahdcfaaDoor
set_option linter.unusedVariables false
set_option linter.unusedSimpArgs false
open Go.RowKit

attribute [local go_sem ↓] Go.wp_at_zero Go.wp_at_succ

set_option maxHeartbeats 8000000 in
set_option maxRecDepth 100000 in
theorem roright_any (cols : Nat) (l : List Ky) (L : Option Addr) (n c : Nat) (w : World) (hl : l.length = n) (hL : Rd w L (kyc l)) (hc : cols ≤ 1000000) (hn : n ≤ 1000) :
    Calls Tryd.prog 28 #[.int .i64 (cols : Int), .slice L n c] w fun e w' => e = .returned (.int .i64 (orderE cols l)) ∧ Below w.heap.size w w' := by
  have Hl := Lib.hid hl
  have HL := Lib.hid hL
  obtain ⟨R, hR⟩ : ∃ R, R = orderE cols l := ⟨_, rfl⟩
  rw [← hR]
  have hc0 : ¬ (cols : Int) < 0 := by omega
  have Hlong : Hid (8 < n → R = 3) := Lib.hid fun h => by
    rw [hR]
    unfold orderE
    rw [if_pos (by rw [hl]; exact h)]
  have Hbad1 : Hid (¬ 8 < n → ∀ j (hj : j < l.length), ¬ (0 ≤ (l[j]).col ∧ (l[j]).col < (cols : Int)) → R = 1) := Lib.hid fun h j hj h2 => by
    rw [hR]
    unfold orderE
    rw [if_neg (by rw [hl]; exact h), if_neg]
    intro h3
    rw [Bool.and_eq_true, List.all_eq_true] at h3
    exact h2 (of_decide_eq_true (h3.1 _ (List.getElem_mem hj)))
  have Hbad2 : Hid (¬ 8 < n → ∀ j (hj : j < l.length), (l[j]).col ∈ (l.take j).map Ky.col → R = 1) := Lib.hid fun h j hj h2 => by
    rw [hR]
    unfold orderE
    rw [if_neg (by rw [hl]; exact h), if_neg]
    intro h3
    rw [Bool.and_eq_true] at h3
    exact ky_nodup_bad hj h2 (of_decide_eq_true h3.2)
  have Hgood : Hid (¬ 8 < n → (∀ k ∈ l, 0 ≤ k.col ∧ k.col < (cols : Int)) → (l.map Ky.col).Nodup → R = 0) := Lib.hid fun h h2 h3 => by
    rw [hR]
    unfold orderE
    rw [if_neg (by rw [hl]; exact h), if_pos]
    rw [Bool.and_eq_true, List.all_eq_true]
    exact ⟨fun k hk => decide_eq_true (h2 k hk), decide_eq_true h3⟩
  clear hl hL hR
  by_cases h8 : 8 < (n : Int)
  · have HR := Lib.hid (Hlong.out (by omega))
    go_enter Tryd.func28, Tryd.ntmps28
    go_wp2_with fail
    go_ret
    exact ⟨by rw [HR.out]; rfl, Below.refl _ _⟩
  · have h8n : ¬ 8 < n := by omega
    go_enter Tryd.func28, Tryd.ntmps28
    go_wp2_with fail
    go_loopw [5] (fun vi wr => ∃ j : Nat, vi = .int .i64 j ∧ j ≤ n ∧ Hid (∀ k ∈ l.take j, 0 ≤ k.col ∧ k.col < (cols : Int)) ∧ Hid (((l.take j).map Ky.col).Nodup) ∧ Hid (Below w.heap.size w wr)) (fun vi _ => n - (intOf vi).toNat)
    case atStart => exact ⟨0, rfl, by omega, by (show ∀ k ∈ ([] : List Ky), _); simp, (show ([] : List Int).Nodup from List.nodup_nil), Below.refl _ _⟩
    case round =>
      obtain ⟨j, rfl, hj, Hin, Hnd, Hb⟩ := hrel
      by_cases hjn : j < n
      · have hjI : (j : Int) < (n : Int) := by omega
        have hjI0 : (0 : Int) ≤ (j : Int) := by omega
        have hjl : j < l.length := by rw [Hl.out]; exact hjn
        obtain ⟨b, o, hLe, c0, c1⟩ := (HL.out.below Hb.out).ky hjl
        have Hb1 := Lib.hid (Hbad1.out h8n j hjl)
        have Hb2 := Lib.hid (Hbad2.out h8n j hjl)
        have hts := List.take_succ_eq_append_getElem hjl
        have Hts := Lib.hid hts
        have Hcel := Lib.hid (fun k (hk : k < j) => (HL.out.below Hb.out).ky (show k < l.length by omega))
        have Hmem := Lib.hid (fun k (hk : k < j) => (show (l[k]'(by omega)).col ∈ (l.take j).map Ky.col from List.mem_map.2 ⟨_, List.mem_take_iff_getElem.2 ⟨k, by omega, rfl⟩, rfl⟩))
        clear hts c1
        generalize hxe : (l[j]).col = x at *
        by_cases h1 : x < 0
        · have HR := Lib.hid (Hb1.out (by omega))
          subst hLe
          clear Hb1 Hb2
          go_wp2_with fail
          go_ret
          exact ⟨by rw [HR.out]; rfl, Hb.out⟩
        · by_cases h2 : (cols : Int) ≤ x
          · have HR := Lib.hid (Hb1.out (by omega))
            subst hLe
            clear Hb1 Hb2
            go_wp2_with fail
            go_ret
            exact ⟨by rw [HR.out]; rfl, Hb.out⟩
          · have Hci := Lib.hid (fun w' (hw : Below wr.heap.size wr w') => cell_keep hw c0)
            have Hxe := Lib.hid hxe
            clear hxe
            subst hLe
            generalize wr = wo at *
            go_wp2_with fail
            go_loopw [6] (fun vk wr => ∃ k : Nat, vk = .int .i64 k ∧ k ≤ j ∧ Hid (∀ i (hi : i < l.length), i < k → ¬ (l[i]).col = x) ∧ Hid (Below wo.heap.size wo wr)) (fun vk _ => j - (intOf vk).toNat)
            case atStart => exact ⟨0, rfl, by omega, (fun i _ h => by omega), Below.refl _ _⟩
            case round =>
              obtain ⟨k, rfl, hk, Hne, Hw2⟩ := hrel
              have HBr := Lib.hid (Hb.out.trans (Hw2.out.mono Hb.out.size))
              have hcj := Hci.out wr Hw2.out
              clear c0
              by_cases hkj : k < j
              · have hkI : (k : Int) < (j : Int) := by omega
                have hkI0 : (0 : Int) ≤ (k : Int) := by omega
                have hkn3 : (k : Int) < (n : Int) := by omega
                have hkl : k < l.length := by omega
                obtain ⟨b', o', hLe', d0, d1⟩ := Hcel.out k hkj
                have hbo : b' = b ∧ o' = o := by cases hLe'; exact ⟨rfl, rfl⟩
                obtain ⟨rfl, rfl⟩ := hbo
                have hdk := cell_keep Hw2.out d0
                have hm := Hmem.out k hkj
                have hst : ¬ (l[k]).col = x → ∀ i (hi : i < l.length), i < k + 1 → ¬ (l[i]).col = x := fun h i hi hik2 => by
                  by_cases e : i = k
                  · subst e; exact h
                  · exact Hne.out i hi (by omega)
                have Hst := Lib.hid hst
                clear d0 d1 hLe' hst
                generalize (l[k]).col = y at *
                by_cases hxy : y = x
                · subst hxy
                  have HR := Lib.hid (Hb2.out hm)
                  clear Hb1 Hb2 hm
                  go_wp2_with fail
                  go_quiet (fail)
                  go_wp2_with fail
                  go_ret
                  exact ⟨by rw [HR.out]; rfl, HBr.out.trans ((drewB5 _ _).mono HBr.out.size)⟩
                · have HY := Lib.hid (Hst.out hxy)
                  have e1 : (y == x) = false := by rw [beq_eq_false_iff_ne]; exact hxy
                  clear Hst hm
                  go_wp2_with fail
                  go_quiet (fail)
                  go_wp2_with fail
                  go_roundw
                  case rel => exact ⟨k + 1, by go_num, by omega, HY, Hw2.out.trans ((drewB5 _ _).mono Hw2.out.size)⟩
                  case measure => simp [intOf]; omega
              · obtain rfl : k = j := by omega
                have hkI : ¬ (k : Int) < (k : Int) := by omega
                have Hin2 : Hid (∀ c ∈ l.take (k + 1), 0 ≤ c.col ∧ c.col < (cols : Int)) := Lib.hid fun c hc => by
                  rw [Hts.out, List.mem_append, List.mem_singleton] at hc
                  rcases hc with hc | rfl
                  · exact Hin.out c hc
                  · rw [Hxe.out]; omega
                have Hnd2 : Hid (((l.take (k + 1)).map Ky.col).Nodup) := by
                  show List.Nodup _
                  rw [Hts.out, List.map_append, List.nodup_append]
                  exact ⟨Hnd.out, by simp, fun a ha b hb e => by
                    rw [List.map_cons, List.map_nil, List.mem_singleton, Hxe.out] at hb
                    rw [e, hb] at ha
                    obtain ⟨z, hz, hz2⟩ := List.mem_map.1 ha
                    obtain ⟨i, hi, e2⟩ := List.mem_take_iff_getElem.1 hz
                    exact Hne.out i (by omega) (by omega) (by rw [e2]; exact hz2)⟩
                clear Hb1 Hb2
                go_wp2_with fail
                go_roundw
                case rel => exact ⟨k + 1, by go_num, by omega, Hin2, Hnd2, HBr.out⟩
                case measure => simp [intOf]; omega
      · obtain rfl : j = n := by omega
        have htk : l.take j = l := List.take_of_length_le (by rw [Hl.out]; exact Nat.le_refl _)
        have HR := Lib.hid (Hgood.out h8n (by have := Hin.out; rwa [htk] at this) (by have := Hnd.out; rwa [htk] at this))
        have hjI : ¬ (j : Int) < (j : Int) := by omega
        clear htk Hbad1 Hbad2
        go_wp2_with fail
        go_ret
        exact ⟨by rw [HR.out]; rfl, Hb.out⟩
end Go.Proofs.YtheafcfbahdcfaaDoor
namespace Go.Proofs.YtheafcfbahdcfaaDoor
set_option linter.unusedVariables false
set_option linter.unusedSimpArgs false
open Go.RowKit

attribute [local go_sem ↓] Go.wp_at_zero Go.wp_at_succ

set_option maxHeartbeats 8000000 in
set_option maxRecDepth 100000 in
theorem rshape_any (ks : List (List Int)) (F : Option Addr) (fn fc : Nat) (N : Option Addr) (nc : Nat) (q : Qy) (a1 : Option Addr) (n1 c1 : Nat) (a2 : Option Addr) (n2 c2 : Nat) (a3 : Option Addr) (n3 c3 : Nat) (a4 : Option Addr) (n4 c4 : Nat) (a5 : Option Addr) (n5 c5 : Nat) (a6 : Option Addr) (n6 c6 : Nat) (w : World) (hks : ks.length = n1 + 1) (hfn : ks.length = fn) (hF : Rd w F (icl (ints (offs 0 ks)))) (hN : Rd w N (icl (ints (endsL ks)))) (hq : Qi w q a1 n1 a2 n2 a3 n3 a4 n4 a5 n5 a6 n6) (hqf : q.Few) (hgd : ∀ i (hi : i < q.joins.length), ¬ jBad ks i q.joins[i]) :
    Calls Tryd.prog 25 #[.slice F fn fc, .agg #[.string (St8 q.frm), .slice a1 n1 c1, .slice a2 n2 c2, .slice a3 n3 c3, .slice a4 n4 c4, .slice a5 n5 c5, .slice a6 n6 c6], .slice N fn nc] w fun e w' => e = .returned (.bool (stF ks q.joins n1 || chF ks q.joins n1)) ∧ Below w.heap.size w w' := by
  have Hks := Lib.hid hks
  have HF := Lib.hid hF
  have HN := Lib.hid hN
  have Hq := Lib.hid hq
  have Hgd := Lib.hid hgd
  have hn1 := hqf.joins
  rw [hq.l1] at hn1
  rw [hks] at hfn
  subst hfn
  obtain ⟨wb, hwb⟩ : ∃ x, x = w.alloc (.cells #[.string (St8 q.frm), .slice a1 n1 c1, .slice a2 n2 c2, .slice a3 n3 c3, .slice a4 n4 c4, .slice a5 n5 c5, .slice a6 n6 c6] 29) := ⟨_, rfl⟩
  have hbx : Blk wb w.heap.size 29 (#[.string (St8 q.frm), .slice a1 n1 c1, .slice a2 n2 c2, .slice a3 n3 c3, .slice a4 n4 c4, .slice a5 n5 c5, .slice a6 n6 c6]).toList := by
    rw [hwb]
    exact Blk.new w _ _
  have Hbb : Hid (Below w.heap.size w wb) := by
    show Below _ _ _
    rw [hwb]
    exact (Below.refl _ _).alloc (Nat.le_refl _) _
  have k1 : wb.cell? ⟨w.heap.size, 1, none⟩ = some (.slice a1 n1 c1) := hbx.cell 1
  have Hend := Lib.hid (endsL_get ks)
  have Hoff := Lib.hid (offs_get ks 0)
  have Hst := Lib.hid (fun j (h : j < q.joins.length) => stF_succ ks q.joins h)
  have Hch := Lib.hid (fun j (h : j < q.joins.length) => chF_succ ks q.joins h)
  clear hks hF hN hq hqf hbx hgd
  go_enter Tryd.func25, Tryd.ntmps25
  go_wp2_with fail
  rw [← hwb]
  clear hwb
  go_loopw [7, 8, 9] (fun vs vc vi wr => ∃ (j : Nat) (a b : Bool), vs = .bool a ∧ vc = .bool b ∧ vi = .int .i64 j ∧ j ≤ n1 ∧ Hid (a = stF ks q.joins j) ∧ Hid (b = chF ks q.joins j) ∧ Hid (wr = wb)) (fun _ _ vi _ => n1 - (intOf vi).toNat)
  case atStart => exact ⟨0, true, true, rfl, rfl, rfl, by omega, rfl, rfl, rfl⟩
  case round =>
    obtain ⟨j, a, b, rfl, rfl, rfl, hj, Ha, Hc, Hww⟩ := hrel
    have hww := Hww.out
    subst hww
    by_cases hjn : j < n1
    · have hjI : (j : Int) < (n1 : Int) := by omega
      have hjI0 : (0 : Int) ≤ (j : Int) := by omega
      have hjI1 : (j : Int) < (n1 : Int) + 1 := by omega
      have hz1 : (0 : Int) < (n1 : Int) + 1 := by omega
      have hjl : j < q.joins.length := by rw [Hq.out.l1]; exact hjn
      obtain ⟨b1, o1, ha1, c0, c1', c2'⟩ := (Hq.out.below Hbb.out).r1.jn hjl
      obtain ⟨b2, o2, hN2, e0⟩ := (HN.out.below Hbb.out).nat (Hend.out 0 (by rw [Hks.out]; omega))
      obtain ⟨b3, o3, hN3, e1⟩ := (HN.out.below Hbb.out).nat (Hend.out j (by rw [Hks.out]; omega))
      obtain ⟨b4, o4, hF4, f1⟩ := (HF.out.below Hbb.out).nat (Hoff.out j (by rw [Hks.out]; omega))
      rw [hN2] at hN3
      obtain ⟨rfl, rfl⟩ : b3 = b2 ∧ o3 = o2 := by cases hN3; exact ⟨rfl, rfl⟩
      have hst := Hst.out j hjl
      have hch := Hch.out j hjl
      have hg := Hgd.out j hjl
      have hlt : (q.joins[j]).left < (preL ks (j + 1) : Int) := by
        unfold jBad at hg
        omega
      rw [Nat.zero_add] at f1
      rw [Nat.add_zero] at e0
      change wr.cell? _ = some (.int .i64 ((preL ks j : Nat) : Int)) at f1
      rw [← Ha.out] at hst
      rw [← Hc.out] at hch
      subst ha1 hN2 hF4
      clear hN3 hg c0 c2'
      generalize (q.joins[j]).left = x at *
      generalize preL ks (j + 1) = p1 at *
      generalize preL ks (0 + 1) = p0 at *
      generalize preL ks j = pj at *
      have Hs2 := Lib.hid hst
      have Hc2 := Lib.hid hch
      clear hst hch Ha Hc
      cases a
      · skip
        cases b
        · skip
          have HS : Hid (stF ks q.joins (j + 1) = false) := Lib.hid (Hs2.out.trans (by first | rfl | simp [*] | (simp; omega)))
          have HC : Hid (chF ks q.joins (j + 1) = false) := Lib.hid (Hc2.out.trans (by first | rfl | simp [*] | (simp; omega)))
          clear Hs2 Hc2
          go_wp2_with fail
          go_roundw
          case rel => exact ⟨j + 1, _, _, rfl, rfl, by go_num, by omega, (by show _ = _; first | exact HS.out.symm | (rw [HS.out]; first | exact decide_eq_true ‹_› | exact decide_eq_false ‹_› | simp [*])), (by show _ = _; first | exact HC.out.symm | (rw [HC.out]; first | exact decide_eq_true ‹_› | exact decide_eq_false ‹_› | simp [*])), by first | exact rfl | exact trivial⟩
          case measure => simp [intOf]; omega
        · by_cases g2 : (pj : Int) ≤ x
          · skip
            have HS : Hid (stF ks q.joins (j + 1) = false) := Lib.hid (Hs2.out.trans (by first | rfl | simp [*] | (simp; omega)))
            have HC : Hid (chF ks q.joins (j + 1) = true) := Lib.hid (Hc2.out.trans (by first | rfl | simp [*] | (simp; omega)))
            clear Hs2 Hc2
            go_wp2_with fail
            go_roundw
            case rel => exact ⟨j + 1, _, _, rfl, rfl, by go_num, by omega, (by show _ = _; first | exact HS.out.symm | (rw [HS.out]; first | exact decide_eq_true ‹_› | exact decide_eq_false ‹_› | simp [*])), (by show _ = _; first | exact HC.out.symm | (rw [HC.out]; first | exact decide_eq_true ‹_› | exact decide_eq_false ‹_› | simp [*])), by first | exact rfl | exact trivial⟩
            case measure => simp [intOf]; omega
          · skip
            have HS : Hid (stF ks q.joins (j + 1) = false) := Lib.hid (Hs2.out.trans (by first | rfl | simp [*] | (simp; omega)))
            have HC : Hid (chF ks q.joins (j + 1) = false) := Lib.hid (Hc2.out.trans (by first | rfl | simp [*] | (simp; omega)))
            clear Hs2 Hc2
            go_wp2_with fail
            go_roundw
            case rel => exact ⟨j + 1, _, _, rfl, rfl, by go_num, by omega, (by show _ = _; first | exact HS.out.symm | (rw [HS.out]; first | exact decide_eq_true ‹_› | exact decide_eq_false ‹_› | simp [*])), (by show _ = _; first | exact HC.out.symm | (rw [HC.out]; first | exact decide_eq_true ‹_› | exact decide_eq_false ‹_› | simp [*])), by first | exact rfl | exact trivial⟩
            case measure => simp [intOf]; omega
      · by_cases g1 : x < (p0 : Int)
        · skip
          cases b
          · skip
            have HS : Hid (stF ks q.joins (j + 1) = true) := Lib.hid (Hs2.out.trans (by first | rfl | simp [*] | (simp; omega)))
            have HC : Hid (chF ks q.joins (j + 1) = false) := Lib.hid (Hc2.out.trans (by first | rfl | simp [*] | (simp; omega)))
            clear Hs2 Hc2
            go_wp2_with fail
            go_roundw
            case rel => exact ⟨j + 1, _, _, rfl, rfl, by go_num, by omega, (by show _ = _; first | exact HS.out.symm | (rw [HS.out]; first | exact decide_eq_true ‹_› | exact decide_eq_false ‹_› | simp [*])), (by show _ = _; first | exact HC.out.symm | (rw [HC.out]; first | exact decide_eq_true ‹_› | exact decide_eq_false ‹_› | simp [*])), by first | exact rfl | exact trivial⟩
            case measure => simp [intOf]; omega
          · by_cases g2 : (pj : Int) ≤ x
            · skip
              have HS : Hid (stF ks q.joins (j + 1) = true) := Lib.hid (Hs2.out.trans (by first | rfl | simp [*] | (simp; omega)))
              have HC : Hid (chF ks q.joins (j + 1) = true) := Lib.hid (Hc2.out.trans (by first | rfl | simp [*] | (simp; omega)))
              clear Hs2 Hc2
              go_wp2_with fail
              go_roundw
              case rel => exact ⟨j + 1, _, _, rfl, rfl, by go_num, by omega, (by show _ = _; first | exact HS.out.symm | (rw [HS.out]; first | exact decide_eq_true ‹_› | exact decide_eq_false ‹_› | simp [*])), (by show _ = _; first | exact HC.out.symm | (rw [HC.out]; first | exact decide_eq_true ‹_› | exact decide_eq_false ‹_› | simp [*])), by first | exact rfl | exact trivial⟩
              case measure => simp [intOf]; omega
            · skip
              have HS : Hid (stF ks q.joins (j + 1) = true) := Lib.hid (Hs2.out.trans (by first | rfl | simp [*] | (simp; omega)))
              have HC : Hid (chF ks q.joins (j + 1) = false) := Lib.hid (Hc2.out.trans (by first | rfl | simp [*] | (simp; omega)))
              clear Hs2 Hc2
              go_wp2_with fail
              go_roundw
              case rel => exact ⟨j + 1, _, _, rfl, rfl, by go_num, by omega, (by show _ = _; first | exact HS.out.symm | (rw [HS.out]; first | exact decide_eq_true ‹_› | exact decide_eq_false ‹_› | simp [*])), (by show _ = _; first | exact HC.out.symm | (rw [HC.out]; first | exact decide_eq_true ‹_› | exact decide_eq_false ‹_› | simp [*])), by first | exact rfl | exact trivial⟩
              case measure => simp [intOf]; omega
        · skip
          cases b
          · skip
            have HS : Hid (stF ks q.joins (j + 1) = false) := Lib.hid (Hs2.out.trans (by first | rfl | simp [*] | (simp; omega)))
            have HC : Hid (chF ks q.joins (j + 1) = false) := Lib.hid (Hc2.out.trans (by first | rfl | simp [*] | (simp; omega)))
            clear Hs2 Hc2
            go_wp2_with fail
            go_roundw
            case rel => exact ⟨j + 1, _, _, rfl, rfl, by go_num, by omega, (by show _ = _; first | exact HS.out.symm | (rw [HS.out]; first | exact decide_eq_true ‹_› | exact decide_eq_false ‹_› | simp [*])), (by show _ = _; first | exact HC.out.symm | (rw [HC.out]; first | exact decide_eq_true ‹_› | exact decide_eq_false ‹_› | simp [*])), by first | exact rfl | exact trivial⟩
            case measure => simp [intOf]; omega
          · by_cases g2 : (pj : Int) ≤ x
            · skip
              have HS : Hid (stF ks q.joins (j + 1) = false) := Lib.hid (Hs2.out.trans (by first | rfl | simp [*] | (simp; omega)))
              have HC : Hid (chF ks q.joins (j + 1) = true) := Lib.hid (Hc2.out.trans (by first | rfl | simp [*] | (simp; omega)))
              clear Hs2 Hc2
              go_wp2_with fail
              go_roundw
              case rel => exact ⟨j + 1, _, _, rfl, rfl, by go_num, by omega, (by show _ = _; first | exact HS.out.symm | (rw [HS.out]; first | exact decide_eq_true ‹_› | exact decide_eq_false ‹_› | simp [*])), (by show _ = _; first | exact HC.out.symm | (rw [HC.out]; first | exact decide_eq_true ‹_› | exact decide_eq_false ‹_› | simp [*])), by first | exact rfl | exact trivial⟩
              case measure => simp [intOf]; omega
            · skip
              have HS : Hid (stF ks q.joins (j + 1) = false) := Lib.hid (Hs2.out.trans (by first | rfl | simp [*] | (simp; omega)))
              have HC : Hid (chF ks q.joins (j + 1) = false) := Lib.hid (Hc2.out.trans (by first | rfl | simp [*] | (simp; omega)))
              clear Hs2 Hc2
              go_wp2_with fail
              go_roundw
              case rel => exact ⟨j + 1, _, _, rfl, rfl, by go_num, by omega, (by show _ = _; first | exact HS.out.symm | (rw [HS.out]; first | exact decide_eq_true ‹_› | exact decide_eq_false ‹_› | simp [*])), (by show _ = _; first | exact HC.out.symm | (rw [HC.out]; first | exact decide_eq_true ‹_› | exact decide_eq_false ‹_› | simp [*])), by first | exact rfl | exact trivial⟩
              case measure => simp [intOf]; omega
    · obtain rfl : j = n1 := by omega
      have hjI : ¬ (j : Int) < (j : Int) := by omega
      cases a
      · cases b
        · go_wp2_with fail
          go_ret
          exact ⟨by rw [← Ha.out, ← Hc.out]; rfl, Hbb.out⟩
        · go_wp2_with fail
          go_ret
          exact ⟨by rw [← Ha.out, ← Hc.out]; rfl, Hbb.out⟩
      · go_wp2_with fail
        go_ret
        exact ⟨by rw [← Ha.out, ← Hc.out]; rfl, Hbb.out⟩
end Go.Proofs.YtheafcfbahdcfaaDoor
