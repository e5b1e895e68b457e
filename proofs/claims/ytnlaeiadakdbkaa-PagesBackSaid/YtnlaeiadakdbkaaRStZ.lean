/- The walks of the reference's store, on: get. -/
import Derived.Test.YtnlaeiadakdbkaaRStY
namespace Go.Proofs.Ytnlaeiadakdbkaa
open Go.RowKit

attribute [local go_sem ↓] Go.wp_at_zero Go.wp_at_succ

theorem St8_at (l : List UInt8) (j : Nat) (hj : j < l.length) (h : j < (St8 l).size) : (St8 l)[j]'h = l[j] := rfl

theorem rget_neg (bs m c : Nat) (A : Option Addr) (n : Int) (w : World) (h1 : -9223372036854775808 ≤ n) (h : n < 0) :
    Calls Try.prog 37 #[.pointer (some ⟨bs, 0, none⟩), .slice A m c, .int .i64 n] w fun e w' => e = .returned (.tuple #[.string (St8 []), .int .i64 1]) ∧ w = w' := by
  go_enter Try.func37, Try.ntmps37
  go_wp2_with fail
  go_ret2
  exact ⟨rfl, rfl⟩

theorem rget_arg (bs m c : Nat) (A : Option Addr) (n : Nat) (w : World) (h1 : n ≤ 9223372036854775807) (h : m ≠ Pg.need n) (hm : m ≤ 1099511627776) :
    Calls Try.prog 37 #[.pointer (some ⟨bs, 0, none⟩), .slice A m c, .int .i64 (n : Int)] w fun e w' => e = .returned (.tuple #[.string (St8 []), .int .i64 1]) ∧ w = w' := by
  have hne : ((m : Int) != (Pg.need n : Int)) = true := by rw [bne_iff_ne]; omega
  have hne' : ((Pg.need n : Int) != (m : Int)) = true := by rw [bne_iff_ne]; omega
  go_enter Try.func37, Try.ntmps37
  go_wp2_with fail
  refine (rneed_any n w h1).mono ?_
  rintro e w' ⟨rfl, rfl⟩
  go_wp2_with fail
  go_ret2
  exact ⟨rfl, rfl⟩

set_option maxRecDepth 100000 in
theorem rget_yes (B bs : Nat) (s : Pg.St) (A : Option Addr) (l : List Int) (m c n : Nat) (w : World) (h : RSto w B bs s) (hl : l.length = m) (hm : m ≤ 1099511627776) (hr : Rd w A (Js l)) (hw : ∀ i ∈ l, -9223372036854775808 ≤ i ∧ i ≤ 9223372036854775807) (hn : m = Pg.need n) :
    Calls Try.prog 37 #[.pointer (some ⟨bs, 0, none⟩), .slice A m c, .int .i64 (n : Int)] w fun e w' => e = .returned (.tuple #[.string (St8 (Pg.getB s l n)), .int .i64 (Pg.getE s l n)]) ∧ Below w.heap.size w w' := by
  have hge := Pg.need_ge n
  have hni := Lib.hid (Pg.needI_nat n)
  have h64 : Hid (∀ (k : Nat) (l : List UInt8), s[k]? = some (some l) → l.length = 64) := by obtain ⟨bp, h⟩ := h; exact h.lens
  rw [← hn] at hge
  have hll := Lib.hid hl
  have Hw := Lib.hid hw
  have Hn := Lib.hid hn
  clear hl hw hn
  have h1 : n ≤ 9223372036854775807 := by omega
  have heq : ((m : Int) != (Pg.need n : Int)) = false := by rw [bne_eq_false_iff_eq, Hn.out]
  go_enter Try.func37, Try.ntmps37
  go_wp2_with fail
  refine (rneed_any n w h1).mono ?_
  rintro e w' ⟨rfl, rfl⟩
  go_wp2_with fail
  go_loopw [8, 9] (fun v i wr => ∃ (k N : Nat), k ≤ m ∧ Hid (56 * k = N) ∧ i = .int .i64 k ∧ v = .string (St8 (Pg.getsB s (l.take k))) ∧ Hid ((Pg.getsB s (l.take k)).length = N) ∧ Hid (Pg.getsE s (l.take k) = 0) ∧ Below w.heap.size w wr) (fun _ i _ => m - (intOf i).toNat)
  case atStart => exact ⟨0, 0, by omega, rfl, rfl, rfl, rfl, rfl, Below.refl _ _⟩
  case round =>
    obtain ⟨k, N, hk, hN, rfl, rfl, hlen, he0, hb⟩ := hrel
    have hR := hr.below hb
    have hst := h.below hb
    have hz := hb.size
    by_cases hlt : k < m
    · obtain ⟨ga, oa, rfl, hga, _, hca⟩ := hR.get (k := k) (by rw [List.length_map, hll.out]; exact hlt)
      rw [List.getElem_map] at hca
      have hkl : k < l.length := by rw [hll.out]; exact hlt
      have htk := Lib.hid (List.take_succ_eq_append_getElem (l := l) (i := k) hkl)
      have hbd := Hw.out _ (List.getElem_mem hkl)
      have htake := Lib.hid (fun hne => Pg.getsE_take (s := s) hkl he0.out hne)
      have hsn := Lib.hid (fun (h0 : Pg.readE s l[k] = 0) => Pg.getsE_snoc (s := s) (i := l[k]) he0.out h0)
      generalize l[k] = id at *
      have h56 := Lib.hid (fun h0 => Pg.readB_len (s := s) (i := id) h64.out h0)
      clear hr hR hkl
      go_wp2_with fail
      refine (rread_c B bs s id wr hst hbd.1 hbd.2).mono ?_
      rintro e w2 ⟨rfl, hb2⟩
      by_cases h0 : Pg.readE s id = 0
      · have hl56 := h56.out h0
        rw [h0]
        have hsum : (St8 (Pg.getsB s (l.take k))).size + (St8 (Pg.readB s id)).size ≤ 9223372036854775807 := by rw [St8_size, St8_size, hl56, hlen.out]; have := hN.out; omega
        have happ := St8_append (Pg.getsB s (l.take k)) (Pg.readB s id)
        rw [← Pg.getsB_snoc, ← htk.out] at happ
        have hb02 := hb.trans (hb2.mono hz)
        go_wp2_with fail
        go_roundw
        case rel =>
          refine ⟨k + 1, N + 56, by omega, ?_, by go_num, rfl, ?_, ?_, hb02⟩
          · show _ = _
            have := hN.out
            omega
          · show _ = _
            rw [htk.out, Pg.getsB_snoc, List.length_append, hl56, hlen.out]
          · show _ = _
            rw [htk.out]
            exact hsn.out h0
        case measure => simp [intOf]; omega
      · have hEs := htake.out h0
        have hE : Hid (Pg.getE s l n = Pg.readE s id) := by
          show _ = _
          unfold Pg.getE
          rw [if_neg, hEs, if_pos h0]
          rw [hni.out, hll.out, Hn.out]
          omega
        have hB' : Hid (Pg.getB s l n = []) := by show _ = _; unfold Pg.getB; rw [hE.out, if_neg h0]
        have hne : (Pg.readE s id != 0) = true := by rw [bne_iff_ne]; exact h0
        have hb02 := hb.trans (hb2.mono hz)
        generalize Pg.readE s id = E at *
        go_wp2_with fail
        go_ret2
        rw [hE.out, hB'.out]
        exact ⟨rfl, hb02⟩
    · obtain rfl : k = m := by omega
      have htk : l.take k = l := List.take_of_length_le (by rw [hll.out]; exact Nat.le_refl _)
      rw [htk] at hlen he0
      rw [htk]
      have hnN : n ≤ N := by have := hN.out; omega
      have hnot : ¬ ((n : Int) < 0 ∨ (l.length : Int) ≠ Pg.needI n) := by rw [hni.out, hll.out, Hn.out]; omega
      have hE : Hid (Pg.getE s l n = if ((Pg.getsB s l).drop n).any (· != 0) = true then 6 else 0) := by
        show _ = _
        unfold Pg.getE
        rw [if_neg hnot, if_neg (by rw [he0.out]; simp), Int.toNat_natCast]
      have hB' : Hid (Pg.getB s l n = if Pg.getE s l n = 0 then (Pg.getsB s l).take n else []) := by
        show _ = _
        unfold Pg.getB
        rw [Int.toNat_natCast]
      have hN56 : N ≤ 61572651155456 := by have := hN.out; omega
      generalize Pg.getsB s l = X at *
      have hsz : (St8 X).size = N := by rw [St8_size, hlen.out]
      have hex := St8_take X n
      obtain ⟨wo, rfl⟩ : ∃ wo : World, wo = wr := ⟨_, rfl⟩
      clear hnot hR hr htk he0 hst h
      go_wp2_with fail
      go_loop [12] (fun i => ∃ j : Nat, n ≤ j ∧ j ≤ N ∧ i = .int .i64 j ∧ Hid (((X.drop n).take (j - n)).any (· != 0) = false)) (fun i => N - (intOf i).toNat)
      case atStart => exact ⟨n, by omega, hnN, rfl, by show _ = _; simp⟩
      case round =>
        obtain ⟨j, hnj, hjN, rfl, hno⟩ := hrel
        by_cases hj : j < N
        · have hjX : j < X.length := by rw [hlen.out]; exact hj
          have hix : ∀ h, (St8 X)[j]'h = X[j] := fun h => St8_at X j hjX h
          have hjI : (j : Int) < (N : Int) := by omega
          have hdt : Hid ((X.drop n).take (j + 1 - n) = (X.drop n).take (j - n) ++ [X[j]]) := by
            show _ = _
            rw [show j + 1 - n = (j - n) + 1 from by omega, List.take_succ_eq_append_getElem (by rw [List.length_drop]; omega), List.getElem_drop]
            congr 2
            simp [show n + (j - n) = j from by omega]
          have hmem : Hid (X[j] ∈ X.drop n) := by
            show _ ∈ _
            rw [List.mem_drop_iff_getElem]
            exact ⟨j - n, by omega, by simp [show n + (j - n) = j from by omega]⟩
          have hx8 := X[j].toNat_lt
          by_cases hx : X[j] = 0
          · have Hx := Lib.hid hx
            have hxn : ((X[j].toNat : Int) != 0) = false := by rw [hx]; rfl
            clear hx
            go_wp2_with fail
            go_round
            case rel => exact ⟨j + 1, by omega, by omega, by go_num, by show _ = _; rw [hdt.out, List.any_append, hno.out, Hx.out]; rfl⟩
            case measure => simp [intOf]; omega
          · have hany : (X.drop n).any (· != 0) = true := by rw [List.any_eq_true]; exact ⟨X[j], hmem.out, by simpa using hx⟩
            rw [hany] at hE
            have hE1 : Hid (Pg.getE s l n = 6) := hE.out
            have hB1 : Hid (Pg.getB s l n = []) := by show _ = _; rw [hB'.out, hE1.out]; rfl
            have hxn : ((X[j].toNat : Int) != 0) = true := by
              rw [bne_iff_ne]
              intro h
              exact hx (UInt8.toNat_inj.1 (by simpa using h))
            clear hany hE hB'
            go_wp2_with fail
            go_ret2
            rw [hE1.out, hB1.out]
            exact ⟨rfl, hb⟩
        · obtain rfl : j = N := by omega
          have hany : (X.drop n).any (· != 0) = false := by
            have := hno.out
            rwa [List.take_of_length_le (by rw [List.length_drop, hlen.out]; omega)] at this
          rw [hany] at hE
          have hE1 : Hid (Pg.getE s l n = 0) := hE.out
          have hB1 : Hid (Pg.getB s l n = X.take n) := by show _ = _; rw [hB'.out, hE1.out]; rfl
          clear hany hE hB'
          go_wp2_with fail
          go_ret2
          rw [hE1.out, hB1.out]
          exact ⟨rfl, hb⟩

theorem rget_c (B bs : Nat) (s : Pg.St) (A : Option Addr) (l : List Int) (m c : Nat) (n : Int) (w : World) (h : RSto w B bs s) (hl : l.length = m) (hm : m ≤ 1099511627776) (hr : Rd w A (Js l)) (hw : ∀ i ∈ l, -9223372036854775808 ≤ i ∧ i ≤ 9223372036854775807)
    (h1 : -9223372036854775808 ≤ n) (h2 : n ≤ 9223372036854775807) :
    Calls Try.prog 37 #[.pointer (some ⟨bs, 0, none⟩), .slice A m c, .int .i64 n] w fun e w' => e = .returned (.tuple #[.string (St8 (Pg.getB s l n)), .int .i64 (Pg.getE s l n)]) ∧ Below w.heap.size w w' := by
  by_cases hn : n < 0
  · have hE : Pg.getE s l n = 1 := by unfold Pg.getE; rw [if_pos (.inl hn)]
    have hB : Pg.getB s l n = [] := by unfold Pg.getB; rw [hE]; rfl
    rw [hE, hB]
    refine (rget_neg bs m c A n w h1 hn).mono ?_
    rintro _ w' ⟨rfl, rfl⟩
    exact ⟨rfl, Below.refl _ _⟩
  · obtain ⟨n, rfl⟩ := Int.eq_ofNat_of_zero_le (by omega : 0 ≤ n)
    by_cases hne : m = Pg.need n
    · exact rget_yes B bs s A l m c n w h hl hm hr hw hne
    · have hE : Pg.getE s l (n : Int) = 1 := by
        unfold Pg.getE
        refine if_pos (.inr ?_)
        rw [Pg.needI_nat, hl]
        exact fun e => hne (by omega)
      have hB : Pg.getB s l (n : Int) = [] := by unfold Pg.getB; rw [hE]; rfl
      rw [hE, hB]
      refine (rget_arg bs m c A n w (by omega) hne hm).mono ?_
      rintro _ w' ⟨rfl, rfl⟩
      exact ⟨rfl, Below.refl _ _⟩
end Go.Proofs.Ytnlaeiadakdbkaa
