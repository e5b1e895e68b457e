/- Walks: few: the statements' own guard. (Printed by gen_qyd.py.) -/
import Derived.Test.YtheafcfbahdcfaaQyG
import Derived.Test.YtheafcfbahdcfaaAkR
namespace Go.Proofs.Ytheafcfbahdcfaa
open Go.RowKit

attribute [local go_sem ↓] Go.wp_at_zero Go.wp_at_succ

set_option maxHeartbeats 16000000 in
set_option maxRecDepth 100000 in
theorem qfew_any (l : List Th) (L : Option Addr) (n c : Nat) (q : Qy) (a1 : Option Addr) (n1 c1 : Nat) (a2 : Option Addr) (n2 c2 : Nat) (a3 : Option Addr) (n3 c3 : Nat) (a4 : Option Addr) (n4 c4 : Nat) (a5 : Option Addr) (n5 c5 : Nat) (a6 : Option Addr) (n6 c6 : Nat) (w : World) (hl : l.length = n) (hL : Rd w L (thc l)) (hq : Qi w q a1 n1 a2 n2 a3 n3 a4 n4 a5 n5 a6 n6) :
    Calls Try.prog 7 #[.slice L n c, .agg #[.string (St8 q.frm), .slice a1 n1 c1, .slice a2 n2 c2, .slice a3 n3 c3, .slice a4 n4 c4, .slice a5 n5 c5, .slice a6 n6 c6]] w fun e w' => (e = .returned (.bool false) ∨ (e = .returned (.bool true) ∧ FewT (l.map Th.t) ∧ q.Few)) ∧ Below w.heap.size w w' := by
  have Hl := Lib.hid hl
  have Hq := Lib.hid hq
  have hz := St8_size q.frm
  obtain ⟨wb, hwb⟩ : ∃ x, x = w.alloc (.cells #[.string (St8 q.frm), .slice a1 n1 c1, .slice a2 n2 c2, .slice a3 n3 c3, .slice a4 n4 c4, .slice a5 n5 c5, .slice a6 n6 c6] 29) := ⟨_, rfl⟩
  have Hbb : Hid (Below w.heap.size w wb) := by
    show Below _ _ _
    rw [hwb]
    exact (Below.refl _ _).alloc (Nat.le_refl _) _
  have HL := Lib.hid (hL.below Hbb.out)
  have HN := Lib.hid ((hq.below Hbb.out).r2)
  clear hl hL hq
  by_cases h0 : 12 < (n : Int)
  · go_enter Try.func7, Try.ntmps7
    go_wp2_with fail
    go_ret
    exact ⟨.inl rfl, by (try rw [← hwb]); exact Hbb.out⟩
  · skip
    by_cases h1 : 200 < (q.frm.length : Int)
    · go_enter Try.func7, Try.ntmps7
      go_wp2_with fail
      go_ret
      exact ⟨.inl rfl, by (try rw [← hwb]); exact Hbb.out⟩
    · skip
      by_cases h2 : 12 < (n1 : Int)
      · go_enter Try.func7, Try.ntmps7
        go_wp2_with fail
        go_ret
        exact ⟨.inl rfl, by (try rw [← hwb]); exact Hbb.out⟩
      · skip
        by_cases h3 : 60 < (n2 : Int)
        · go_enter Try.func7, Try.ntmps7
          go_wp2_with fail
          go_ret
          exact ⟨.inl rfl, by (try rw [← hwb]); exact Hbb.out⟩
        · skip
          by_cases h4 : 12 < (n3 : Int)
          · go_enter Try.func7, Try.ntmps7
            go_wp2_with fail
            go_ret
            exact ⟨.inl rfl, by (try rw [← hwb]); exact Hbb.out⟩
          · skip
            by_cases h5 : 12 < (n4 : Int)
            · go_enter Try.func7, Try.ntmps7
              go_wp2_with fail
              go_ret
              exact ⟨.inl rfl, by (try rw [← hwb]); exact Hbb.out⟩
            · skip
              by_cases h6 : 12 < (n5 : Int)
              · go_enter Try.func7, Try.ntmps7
                go_wp2_with fail
                go_ret
                exact ⟨.inl rfl, by (try rw [← hwb]); exact Hbb.out⟩
              · skip
                by_cases h7 : 12 < (n6 : Int)
                · go_enter Try.func7, Try.ntmps7
                  go_wp2_with fail
                  go_ret
                  exact ⟨.inl rfl, by (try rw [← hwb]); exact Hbb.out⟩
                · skip
                  have Hfin : Hid ((∀ h ∈ l, h.t.name.length ≤ 200 ∧ h.t.kinds.length ≤ 12) → (∀ x ∈ q.asked, x.v.s.length ≤ 200) → FewT (l.map Th.t) ∧ q.Few) := Lib.hid fun k1 k2 => by
                    refine ⟨⟨by rw [List.length_map, Hl.out]; omega, fun t ht => ?_, fun t ht => ?_⟩, ⟨by omega, by rw [Hq.out.l1]; omega, by rw [Hq.out.l2]; omega, by rw [Hq.out.l3]; omega, by rw [Hq.out.l4]; omega, by rw [Hq.out.l5]; omega, by rw [Hq.out.l6]; omega, k2⟩⟩
                    · obtain ⟨h, hh, rfl⟩ := List.mem_map.1 ht
                      have := (k1 h hh).1
                      omega
                    · obtain ⟨h, hh, rfl⟩ := List.mem_map.1 ht
                      exact (k1 h hh).2
                  have H2 := Lib.hid Hq.out.l2
                  go_enter Try.func7, Try.ntmps7
                  go_wp2_with fail
                  go_loopw [56] (fun vi wr => ∃ j : Nat, vi = .int .i64 j ∧ j ≤ n ∧ Hid (∀ h ∈ l.take j, h.t.name.length ≤ 200 ∧ h.t.kinds.length ≤ 12) ∧ Hid (Below wb.heap.size wb wr)) (fun vi _ => n - (intOf vi).toNat)
                  case atStart => exact ⟨0, rfl, by omega, by (show ∀ k ∈ ([] : List Th), _); simp, by (try rw [← hwb]); exact Below.refl _ _⟩
                  case round =>
                    obtain ⟨j, rfl, hj, Hall, Hb⟩ := hrel
                    by_cases hjn : j < n
                    · have hjI : (j : Int) < (n : Int) := by omega
                      have hjI0 : (0 : Int) ≤ (j : Int) := by omega
                      have hjl : j < l.length := by rw [Hl.out]; exact hjn
                      obtain ⟨b, o, hLe, c0, c1⟩ := (HL.out.below Hb.out).table hjl
                      have hts := List.take_succ_eq_append_getElem hjl
                      have Hts := Lib.hid hts
                      have Hbf := Lib.hid (fun u => Hbb.out.trans ((Hb.out.alloc Hb.out.size u).mono Hbb.out.size))
                      clear hts
                      subst hLe
                      generalize l[j] = x at *
                      obtain ⟨⟨nm, kn⟩, a, cc⟩ := x
                      dsimp only at c0 c1
                      have hzn := St8_size nm
                      generalize hkl : kn.length = m at *
                      have Hkl := Lib.hid hkl
                      clear hkl hjl
                      by_cases g1 : 200 < (nm.length : Int)
                      · go_wp2_with fail
                        go_ret
                        exact ⟨.inl rfl, Hbf.out _⟩
                      · by_cases g2 : 12 < (m : Int)
                        · go_wp2_with fail
                          go_ret
                          exact ⟨.inl rfl, Hbf.out _⟩
                        · have Hall2 : Hid (∀ h ∈ l.take (j + 1), h.t.name.length ≤ 200 ∧ h.t.kinds.length ≤ 12) := Lib.hid fun h hh => by
                            rw [Hts.out, List.mem_append, List.mem_singleton] at hh
                            rcases hh with hh | rfl
                            · exact Hall.out h hh
                            · exact ⟨by show nm.length ≤ 200; omega, by show kn.length ≤ 12; rw [Hkl.out]; omega⟩
                          have Hb9 : Hid (Below wb.heap.size wb (wr.alloc (.cells #[.string (St8 nm), .slice a m cc] 45))) := Hb.out.alloc Hb.out.size _
                          go_wp2_with fail
                          go_roundw
                          case rel => exact ⟨j + 1, by go_num, by omega, Hall2, Hb9⟩
                          case measure => simp [intOf]; omega
                    · obtain rfl : j = n := by omega
                      have Hk1 : Hid (∀ h ∈ l, h.t.name.length ≤ 200 ∧ h.t.kinds.length ≤ 12) := by
                        have := Hall.out
                        rwa [List.take_of_length_le (by rw [Hl.out]; exact Nat.le_refl _)] at this
                      clear Hall
                      have hbx : Blk wb w.heap.size 29 (#[.string (St8 q.frm), .slice a1 n1 c1, .slice a2 n2 c2, .slice a3 n3 c3, .slice a4 n4 c4, .slice a5 n5 c5, .slice a6 n6 c6]).toList := by
                        rw [hwb]
                        exact Blk.new w _ _
                      have k2 := (hbx.below Hb.out).cell 2
                      simp only [List.getElem?_cons_succ, List.getElem?_cons_zero] at k2
                      clear hbx
                      generalize wr = w3 at *
                      go_wp2_with fail
                      go_loopw [74] (fun vi wr => ∃ i : Nat, vi = .int .i64 i ∧ i ≤ n2 ∧ Hid (∀ x ∈ q.asked.take i, x.v.s.length ≤ 200) ∧ Hid (Below wb.heap.size wb wr)) (fun vi _ => n2 - (intOf vi).toNat)
                      case atStart => exact ⟨0, rfl, by omega, by (show ∀ k ∈ ([] : List Nd), _); simp, Hb⟩
                      case round =>
                        obtain ⟨i, rfl, hi, Hall, Hb⟩ := hrel
                        by_cases hin : i < n2
                        · have hiI : (i : Int) < (n2 : Int) := by omega
                          have hiI0 : (0 : Int) ≤ (i : Int) := by omega
                          have hil : i < q.asked.length := by rw [H2.out]; exact hin
                          obtain ⟨b, o, hNe, c0, c1', c2', c3', c4', c5'⟩ := node_cells (HN.out.below Hb.out) (List.getElem?_eq_getElem hil)
                          have hts := List.take_succ_eq_append_getElem hil
                          have Hts := Lib.hid hts
                          have Hbf := Lib.hid (fun u => Hbb.out.trans ((Hb.out.alloc Hb.out.size u).mono Hbb.out.size))
                          have Hbg := Lib.hid (fun u => Hb.out.alloc Hb.out.size u)
                          clear hts
                          subst hNe
                          generalize q.asked[i] = x at *
                          obtain ⟨op, col, kids, k, nn, s⟩ := x
                          dsimp only at c0 c1' c2' c3' c4' c5'
                          have hzs := St8_size s
                          clear hil
                          by_cases g1 : 200 < (s.length : Int)
                          · go_wp2_with fail
                            go_ret
                            exact ⟨.inl rfl, Hbf.out _⟩
                          · have Hall2 : Hid (∀ x ∈ q.asked.take (i + 1), x.v.s.length ≤ 200) := Lib.hid fun x hx => by
                              rw [Hts.out, List.mem_append, List.mem_singleton] at hx
                              rcases hx with hx | rfl
                              · exact Hall.out x hx
                              · show s.length ≤ 200; omega
                            go_wp2_with fail
                            go_roundw
                            case rel => exact ⟨i + 1, by go_num, by omega, Hall2, Hbg.out _⟩
                            case measure => simp [intOf]; omega
                        · obtain rfl : i = n2 := by omega
                          have Hk2 : Hid (∀ x ∈ q.asked, x.v.s.length ≤ 200) := by
                            have := Hall.out
                            rwa [List.take_of_length_le (by rw [H2.out]; exact Nat.le_refl _)] at this
                          have Hbf := Lib.hid (Hbb.out.trans (Hb.out.mono Hbb.out.size))
                          go_wp2_with fail
                          go_ret
                          exact ⟨.inr ⟨rfl, Hfin.out Hk1.out Hk2.out⟩, Hbf.out⟩
end Go.Proofs.Ytheafcfbahdcfaa
