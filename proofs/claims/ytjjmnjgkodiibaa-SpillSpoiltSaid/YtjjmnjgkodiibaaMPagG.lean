/- The walk of Get of package pages, and its contract. -/
import Derived.Test.YtjjmnjgkodiibaaMPagR
namespace Go.Proofs.Ytjjmnjgkodiibaa
open Go.RowKit

theorem get_neg (bs m c : Nat) (A : Option Addr) (n : Int) (w : World) (h1 : -9223372036854775808 ≤ n) (h : n < 0) :
    Calls Try.prog 32 #[.pointer (some ⟨bs, 0, none⟩), .slice A m c, .int .i64 n] w fun e w' => e = .returned (.tuple #[.slice none 0 0, .int .i64 1]) ∧ w = w' := by
  go_enter Try.func32, Try.ntmps32
  go_wp2_with fail
  go_ret2
  exact ⟨rfl, rfl⟩

theorem get_arg (bs m c : Nat) (A : Option Addr) (n : Nat) (w : World) (h1 : n ≤ 9223372036854775807) (h : m ≠ Pg.need n) (hm : m ≤ 1099511627776) :
    Calls Try.prog 32 #[.pointer (some ⟨bs, 0, none⟩), .slice A m c, .int .i64 (n : Int)] w fun e w' => e = .returned (.tuple #[.slice none 0 0, .int .i64 1]) ∧ w = w' := by
  have hne : ((m : Int) != (Pg.need n : Int)) = true := by rw [bne_iff_ne]; omega
  have hne' : ((Pg.need n : Int) != (m : Int)) = true := by rw [bne_iff_ne]; omega
  go_enter Try.func32, Try.ntmps32
  go_wp2_with fail
  refine (need_any n w h1).mono ?_
  rintro e w' ⟨rfl, rfl⟩
  go_wp2_with fail
  go_ret2
  exact ⟨rfl, rfl⟩

set_option maxHeartbeats 1000000 in
set_option maxRecDepth 100000 in
theorem get_yes (B bs : Nat) (s : Pg.St) (A : Option Addr) (l : List Int) (m c n : Nat) (w : World) (h : Sto w B bs s) (hl : l.length = m) (hm : m ≤ 1099511627776) (hr : Rd w A (Js l)) (hw : ∀ i ∈ l, -9223372036854775808 ≤ i ∧ i ≤ 9223372036854775807) (hn : m = Pg.need n) :
    Calls Try.prog 32 #[.pointer (some ⟨bs, 0, none⟩), .slice A m c, .int .i64 (n : Int)] w fun e w' => ∃ A' c', e = .returned (.tuple #[.slice A' (Pg.getB s l n).length c', .int .i64 (Pg.getE s l n)]) ∧ Rd w' A' (Bs (Pg.getB s l n)) ∧ Below w.heap.size w w' := by
  have hge := Pg.need_ge n
  have hni := Lib.hid (Pg.needI_nat n)
  have h64 := Lib.hid (sto_64 h)
  rw [← hn] at hge
  have hll := Lib.hid hl
  have Hw := Lib.hid hw
  have Hn := Lib.hid hn
  clear hl hw hn
  have h1 : n ≤ 9223372036854775807 := by omega
  have heq : ((m : Int) != (Pg.need n : Int)) = false := by rw [bne_eq_false_iff_eq, Hn.out]
  go_enter Try.func32, Try.ntmps32
  go_wp2_with fail
  refine (need_any n w h1).mono ?_
  rintro e w' ⟨rfl, rfl⟩
  go_wp2_with fail
  go_loopw [8, 28] (fun v i wr => ∃ (k N rc : Nat) (R : Option Addr), k ≤ m ∧ Hid (56 * k = N) ∧ i = .int .i64 k ∧ v = .slice R N rc ∧ Own wr w.heap.size 5 1 R N rc (Bs (Pg.getsB s (l.take k))) ∧ Hid ((Pg.getsB s (l.take k)).length = N) ∧ Hid (Pg.getsE s (l.take k) = 0) ∧ Below w.heap.size w wr) (fun _ i _ => m - (intOf i).toNat)
  case atStart => exact ⟨0, 0, 0, none, by omega, rfl, rfl, rfl, Own.nil _ _ _ _, rfl, rfl, Below.refl _ _⟩
  case round =>
    obtain ⟨k, N, rc, R, hk, hN, rfl, rfl, ho, hlen, he0, hb⟩ := hrel
    have hR := hr.below hb
    have hst := h.below hb
    have hz := hb.size
    by_cases hlt : k < m
    · obtain ⟨ga, oa, rfl, hga, _, hca⟩ := hR.get (k := k) (by rw [List.length_map, hll.out]; exact hlt)
      rw [List.getElem_map] at hca
      have hkl : k < l.length := by rw [hll.out]; exact hlt
      have htk := Lib.hid (List.take_succ_eq_append_getElem (l := l) (i := k) hkl)
      have hbd := Hw.out _ (List.getElem_mem hkl)
      have htake := Lib.hid (fun hne => Pg.getsE_take (s := s) hkl he0.out hne)
      have hsn := Lib.hid (fun (h0 : Pg.readE s l[k] = 0) => Pg.getsE_snoc (s := s) (i := l[k]) he0.out h0)
      generalize l[k] = id at *
      have h56 := Lib.hid (fun h0 => Pg.readB_len (s := s) (i := id) h64.out h0)
      clear hr hR hkl
      go_wp2_with fail
      refine (read_c B bs s id wr hst hbd.1 hbd.2).mono ?_
      rintro e w2 ⟨A2, c2, rfl, ho2, hb2⟩
      by_cases h0 : Pg.readE s id = 0
      · have hl56 := h56.out h0
        have H0 := Lib.hid h0
        rw [h0]
        have ho' := ho.below hb2
        have hb02 := hb.trans (hb2.mono hz)
        have hz2 := hb02.size
        rw [hl56]
        go_wp2_with (first | (at_builtin; refine hold ?_) | (at_make; refine hold ?_))
        (with_reducible refine unhold ?_)
        refine wpList_apd rfl _ _ _ rfl E8 w.heap.size R N rc (Bs (Pg.getsB s (l.take k))) rfl ho' A2 56 c2 (Bs (Pg.readB s id)) rfl (by rw [List.length_map, hl56]) ho2.rd (Bs_one _) (N + 56) rfl (Bs (Pg.getsB s (l.take (k + 1)))) (by rw [htk.out, Pg.getsB_snoc]; exact (List.map_append ..).symm) (by have := hN.out; omega) (by have := hN.out; omega) hz2 ?_
        intro A3 c3 w3 ho3 hg3 hat3
        have hb03 : Below w.heap.size w w3 := hb02.grown hg3 hz2 ho'.row_ge
        go_wp2_with fail
        go_roundw
        case rel =>
          refine ⟨k + 1, N + 56, c3, A3, by omega, ?_, by go_num, rfl, ho3, ?_, ?_, hb03⟩
          · show _ = _
            have := hN.out
            omega
          · show _ = _
            rw [htk.out, Pg.getsB_snoc, List.length_append, hl56, hlen.out]
          · show _ = _
            rw [htk.out]
            exact hsn.out h0
        case measure => simp [intOf]; omega
      · have hEs := htake.out h0
        have hE : Hid (Pg.getE s l n = Pg.readE s id) := by
          show _ = _
          unfold Pg.getE
          rw [if_neg, hEs, if_pos h0]
          rw [hni.out, hll.out, Hn.out]
          omega
        have hB' : Hid (Pg.getB s l n = []) := by show _ = _; unfold Pg.getB; rw [hE.out, if_neg h0]
        have hne : (Pg.readE s id != 0) = true := by rw [bne_iff_ne]; exact h0
        have hb02 := hb.trans (hb2.mono hz)
        generalize Pg.readE s id = E at *
        go_wp2_with fail
        go_ret2
        rw [hE.out, hB'.out]
        exact ⟨none, 0, rfl, Rd.nil _ _, hb02⟩
    · obtain rfl : k = m := by omega
      have htk : l.take k = l := List.take_of_length_le (by rw [hll.out]; exact Nat.le_refl _)
      rw [htk] at ho hlen he0
      have hnN : n ≤ N := by have := hN.out; omega
      have hnot : ¬ ((n : Int) < 0 ∨ (l.length : Int) ≠ Pg.needI n) := by rw [hni.out, hll.out, Hn.out]; omega
      have hE : Hid (Pg.getE s l n = if ((Pg.getsB s l).drop n).any (· != 0) = true then 6 else 0) := by
        show _ = _
        unfold Pg.getE
        rw [if_neg hnot, if_neg (by rw [he0.out]; simp), Int.toNat_natCast]
      have hB' : Hid (Pg.getB s l n = if Pg.getE s l n = 0 then (Pg.getsB s l).take n else []) := by
        show _ = _
        unfold Pg.getB
        rw [Int.toNat_natCast]
      have hdl : ((Pg.getsB s l).drop n).length = N - n := by rw [List.length_drop, hlen.out]
      have htl := Lib.hid (show ((Pg.getsB s l).take n).length = n by rw [List.length_take, hlen.out]; omega)
      have hcap := ho.cap
      have hN56 : N ≤ 61572651155456 := by have := hN.out; omega
      have hrest : ∀ (g o : Nat), R = some ⟨g, o, none⟩ → o = 0 := by
        rintro g o rfl
        rcases ho.lies with ⟨hA, _⟩ | ⟨g', cur, hA, _⟩
        · cases hA
        · injection hA with hA; injection hA
      generalize Pg.getsB s l = X at *
      clear hr hnot hR
      rcases ho.lies with ⟨rfl, rfl, rfl, hnil⟩ | ⟨g, cur, rfl, hgB, hgl, hblk, hcs, htk2⟩
      · obtain rfl : n = 0 := by omega
        obtain rfl : X = [] := by simpa using hnil
        have hE0 : Hid (Pg.getE s l (0 : Nat) = 0) := hE.out
        have hB0 : Hid (Pg.getB s l (0 : Nat) = []) := by
          show _ = _
          rw [hB'.out, hE0.out]
          rfl
        go_wp2_with fail
        refine (contains_any none [] 0 0 wr rfl (by omega) (Rd.nil _ _)).mono ?_
        rintro e w2 ⟨rfl, rfl⟩
        go_wp2_with fail
        go_ret2
        rw [show Pg.getE s l ((0 : Nat) : Int) = 0 from hE0.out, show Pg.getB s l ((0 : Nat) : Int) = [] from hB0.out]
        exact ⟨none, 0, rfl, Rd.nil _ _, hb⟩
      · have hrd : Rd wr (some ⟨g, n, none⟩) (Bs (X.drop n)) := by
          intro hne
          have hne2 : Bs X ≠ [] := by
            intro e
            have : X = [] := by simpa using e
            subst this
            simp at hne
          obtain ⟨b0, o0, e0, hr0⟩ := ho.rd hne2
          injection e0 with e0
          injection e0 with e1 e2
          subst e1
          subst e2
          have := Rd.part hr0 n (N - n)
          rw [← List.map_drop, List.take_of_length_le (by rw [List.length_map, hdl]; exact Nat.le_refl _), Nat.zero_add] at this
          exact ⟨g, n, rfl, this⟩
        have Hdl := Lib.hid hdl
        clear hdl htk2 hblk
        have hrd1 := ho.rd
        by_cases hcn : rc = n
        · subst hcn
          have hx0 := Lib.hid (show X.drop rc = [] from List.drop_eq_nil_of_le (by rw [hlen.out]; omega))
          rw [hx0.out] at hE
          have hE1 : Hid (Pg.getE s l rc = 0) := hE.out
          have hB1 : Hid (Pg.getB s l rc = X.take rc) := by show _ = _; rw [hB'.out, hE1.out]; rfl
          clear hE hB' hrd
          go_wp2_with fail
          refine (contains_any _ [] 0 0 wr rfl (by omega) (Rd.nil _ _)).mono ?_
          rintro e w2 ⟨rfl, rfl⟩
          go_wp2_with fail
          go_ret2
          rw [hE1.out, hB1.out, htl.out]
          refine ⟨_, _, rfl, ?_, hb⟩
          intro hne
          have hne2 : Bs X ≠ [] := by
            intro e
            have : X = [] := by simpa using e
            subst this
            simp at hne
          obtain ⟨b0, o0, e0, hr0⟩ := hrd1 hne2
          have := Rd.part hr0 0 rc
          rw [List.drop_zero, ← List.map_take, Nat.add_zero] at this
          exact ⟨b0, o0, e0, this⟩
        · cases hany : (X.drop n).any (· != 0) with
          | true =>
            rw [hany] at hE
            have hE1 : Hid (Pg.getE s l n = 6) := hE.out
            have hB1 : Hid (Pg.getB s l n = []) := by show _ = _; rw [hB'.out, hE1.out]; rfl
            have Hany := Lib.hid hany
            clear hE hB' hany
            go_wp2_with fail
            refine (contains_any _ (X.drop n) (N - n) _ wr Hdl.out (by omega) hrd).mono ?_
            rw [Hany.out]
            rintro e w2 ⟨rfl, rfl⟩
            go_wp2_with fail
            go_ret2
            rw [hE1.out, hB1.out]
            exact ⟨none, 0, rfl, Rd.nil _ _, hb⟩
          | false =>
            rw [hany] at hE
            have hE1 : Hid (Pg.getE s l n = 0) := hE.out
            have hB1 : Hid (Pg.getB s l n = X.take n) := by show _ = _; rw [hB'.out, hE1.out]; rfl
            have Hany := Lib.hid hany
            clear hE hB' hany
            go_wp2_with fail
            refine (contains_any _ (X.drop n) (N - n) _ wr Hdl.out (by omega) hrd).mono ?_
            rw [Hany.out]
            rintro e w2 ⟨rfl, rfl⟩
            go_wp2_with fail
            go_ret2
            rw [hE1.out, hB1.out, htl.out]
            refine ⟨_, _, rfl, ?_, hb⟩
            intro hne
            have hne2 : Bs X ≠ [] := by
              intro e
              have : X = [] := by simpa using e
              subst this
              simp at hne
            obtain ⟨b0, o0, e0, hr0⟩ := hrd1 hne2
            have := Rd.part hr0 0 n
            rw [List.drop_zero, ← List.map_take, Nat.add_zero] at this
            exact ⟨b0, o0, e0, this⟩

theorem get_c (B bs : Nat) (s : Pg.St) (A : Option Addr) (l : List Int) (m c : Nat) (n : Int) (w : World) (h : Sto w B bs s) (hl : l.length = m) (hm : m ≤ 1099511627776) (hr : Rd w A (Js l)) (hw : ∀ i ∈ l, -9223372036854775808 ≤ i ∧ i ≤ 9223372036854775807)
    (h1 : -9223372036854775808 ≤ n) (h2 : n ≤ 9223372036854775807) :
    Calls Try.prog 32 #[.pointer (some ⟨bs, 0, none⟩), .slice A m c, .int .i64 n] w fun e w' => ∃ A' c', e = .returned (.tuple #[.slice A' (Pg.getB s l n).length c', .int .i64 (Pg.getE s l n)]) ∧ Rd w' A' (Bs (Pg.getB s l n)) ∧ Below w.heap.size w w' := by
  by_cases hn : n < 0
  · have hE : Pg.getE s l n = 1 := by unfold Pg.getE; rw [if_pos (.inl hn)]
    have hB : Pg.getB s l n = [] := by unfold Pg.getB; rw [hE]; rfl
    rw [hE, hB]
    refine (get_neg bs m c A n w h1 hn).mono ?_
    rintro _ w' ⟨rfl, rfl⟩
    exact ⟨none, 0, rfl, Rd.nil _ _, Below.refl _ _⟩
  · obtain ⟨n, rfl⟩ := Int.eq_ofNat_of_zero_le (by omega : 0 ≤ n)
    by_cases hne : m = Pg.need n
    · exact get_yes B bs s A l m c n w h hl hm hr hw hne
    · have hE : Pg.getE s l (n : Int) = 1 := by
        unfold Pg.getE
        refine if_pos (.inr ?_)
        rw [Pg.needI_nat, hl]
        exact fun e => hne (by omega)
      have hB : Pg.getB s l (n : Int) = [] := by unfold Pg.getB; rw [hE]; rfl
      rw [hE, hB]
      refine (get_arg bs m c A n w (by omega) hne hm).mono ?_
      rintro _ w' ⟨rfl, rfl⟩
      exact ⟨none, 0, rfl, Rd.nil _ _, Below.refl _ _⟩
end Go.Proofs.Ytjjmnjgkodiibaa
